/- finds: bytes. -/
import Derived.Test.YtedddekkbgaolaaDoorFd
namespace Go.Proofs.YtedddekkbgaolaaDoor
open Go.RowKit Me
theorem box_behind0 {w w1 : World} {a : Nat} {row : Array Value} {t : TypeId} (ha : a < w.heap.size) (hm : Mods [a] (w.alloc (.cells row t)) w1) (i : Nat) {u : Value} (hu : row[i]? = some u) : w1.cell? ⟨w.heap.size, i, none⟩ = some u := by
  have h1 : w1.cell? ⟨w.heap.size, i, none⟩ = (w.alloc (.cells row t)).cell? ⟨w.heap.size, i, none⟩ := hm.cell (by show w.heap.size < (w.heap.push _).size; rw [Array.size_push]; omega) (by simp; omega)
  rw [h1]
  have h2 := cells_new w row.toList t i u (by simpa using hu)
  rw [Addr.add_lit] at h2
  simpa using h2
/-- A slice of nothing reads in every world. -/
theorem Rd.mods2 {w w' : World} {v : Value} {xs : List Value} {F : List Nat} (h : Rd w v xs) (hm : Mods F w w') (hn : xs = [] ∨ ∀ k, v.ownBlock = some k → k ∉ F) : Rd w' v xs := by
  rcases hn with rfl | hn
  · obtain ⟨A, c, e, h1, h2, _⟩ := h
    exact ⟨A, c, e, h1, h2, fun j u hu => by simp at hu⟩
  · exact h.mods hm hn
set_option maxRecDepth 100000 in
set_option maxHeartbeats 1000000 in
theorem finds5 {w : World} {a : Nat} {S : RSt} {rb : Value} (h : IsR 130 w a S rb) (o : OpP) (hk : o.kind = 5) (ho : o.Fits) {vb : Value} (hb : Rd w vb (o.b.map byteV)) (hab : o.b = [] ∨ vb.ownBlock ≠ some a) (hrl : (S.raw o.b.length).1.length ≤ maxLen) :
    Calls Tryd.prog 102 #[.pointer (some ⟨a, 0, none⟩), opV o vb] w (FindsPost w a rb (decide ((S.raw o.b.length).1 = o.b)) (S.raw o.b.length).2) := by
  have HB := Lib.hid hb
  have HAB := Lib.hid hab
  have HRL := Lib.hid hrl
  obtain ⟨A, c, hvb, -⟩ := hb
  rw [List.length_map] at hvb
  subst hvb
  have hbl := ho.b
  obtain ⟨who, kind, n, k, b, s⟩ := o
  simp only [opV] at *
  subst hk
  have HK := Lib.hid (fun (x : Obj) => rraw_any (h.still ((Mods.refl [] w).alloc x)) (b.length : Int) (by omega) (by omega))
  have HA := Lib.hid (show a < w.heap.size from (Array.getElem?_eq_some_iff.1 h.cells).1)
  have HM := Lib.hid (fun (x : Obj) => ((Mods.refl [] w).alloc x))
  generalize S.raw b.length = R at *
  clear h ho hab hrl
  go_enter Tryd.func102, Tryd.ntmps102
  go_wp2_with fail
  refine (HK.out _).mono ?_; rintro e w1 ⟨v, rfl, hown, hr⟩
  have hc := box_behind0 HA.out hr.2 4 rfl
  have HR := Lib.hid hr
  have HO := Lib.hid (Rd.of_own hown)
  have hb1 : Rd w1 (.slice A b.length c) (b.map byteV) := by
    refine (HB.out.mods (HM.out _) (by simp)).mods2 hr.2 ?_
    rcases HAB.out with hb0 | hb0
    · exact Or.inl (by rw [show b = [] from hb0]; rfl)
    · exact Or.inr (by intro k hk hm; simp at hm; subst hm; exact hb0 hk)
  have HB1 := Lib.hid hb1
  clear hb1
  clear hr hown
  go_wp2_with fail
  refine (same_any R.1 b HO.out HB1.out HRL.out (by unfold maxLen; omega)).mono ?_; rintro e w2 ⟨rfl, q, rfl⟩
  go_wp2_with fail
  go_ret
  exact ⟨rfl, RPost.behind (HM.out _) ⟨HR.out.1.drewN _, HR.out.2.drewN _⟩⟩
end Go.Proofs.YtedddekkbgaolaaDoor
