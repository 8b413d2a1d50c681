/- stat.TakeQid, Take. -/
import Derived.Test.YtedddekkbgaolaaDoorSp
namespace Go.Proofs.YtedddekkbgaolaaDoor
open Go.RowKit Me

theorem qid_eq {S : RSt} {g1 g2 g3 : Nat × RSt} (h1 : S.get 1 = g1) (h2 : g1.2.get 4 = g2) (h3 : g2.2.get 8 = g3) : S.qid = (if g3.2.err ≠ 0 then QidP.zero else ⟨g1.1, g2.1, g3.1⟩, g3.2) := by
  subst h1
  subst h2
  subst h3
  rfl
theorem IsR.setNew {T : TypeId} {w : World} {a b : Nat} {S : RSt} {vb : Value} (h : IsR T w a S vb) (hb : b ≠ a) (hv : vb.ownBlock ≠ some b) (o : Nat) (u : Value) : IsR T (w.setCell ⟨b, o, none⟩ u) a S vb :=
  h.mods ((Mods.refl [b] w).setCell (p := ⟨b, o, none⟩) (Or.inl (by simp)) u) (by simpa using fun e => hb e.symm) (fun k hk hm => hv (by simp at hm; subst hm; exact hk))
set_option maxRecDepth 100000 in
set_option maxHeartbeats 400000 in
theorem takeQid_any {a : Nat} {S : RSt} {vb : Value} {w : World} (h : IsR 130 w a S vb) (hv : ∀ k, vb.ownBlock = some k → k < w.heap.size) :
    Calls Tryd.prog 146 #[.pointer (some ⟨a, 0, none⟩)] w fun e w' => e = .returned (.agg (qidV S.qid.1)) ∧ RPost 130 w a vb S.qid.2 w' := by
  have ha : a < w.heap.size := (Array.getElem?_eq_some_iff.1 h.cells).1
  have H0 := Lib.hid (h.mods ((Mods.refl [] w).alloc (.cells #[.int .u8 0, .int .u32 0, .int .u64 0] 88)) (by simp) (by simp))
  have M0 := Lib.hid ((Mods.refl [a] w).alloc (.cells #[.int .u8 0, .int .u32 0, .int .u64 0] 88))
  have B0 := Lib.hid (heap_alloc_new w (.cells #[.int .u8 0, .int .u32 0, .int .u64 0] 88))
  have hne : w.heap.size ≠ a := by omega
  have HNE := Lib.hid hne
  have HV := Lib.hid (show vb.ownBlock ≠ some w.heap.size from fun e => by have := hv _ e; omega)
  clear hv
  generalize hg1 : S.get 1 = g1 at *
  have G1 := Lib.hid hg1
  generalize hg2 : g1.2.get 4 = g2 at *
  have G2 := Lib.hid hg2
  generalize hg3 : g2.2.get 8 = g3 at *
  have G3 := Lib.hid hg3
  have HQ := Lib.hid (qid_eq hg1 hg2 hg3)
  clear h hne hg1 hg2 hg3
  go_enter Tryd.func146, Tryd.ntmps146
  go_wp2_with fail
  refine (ru8_any H0.out).mono ?_; rintro e w1 ⟨rfl, hp, hm⟩
  rw [G1.out] at hp ⊢
  have H1 := Lib.hid hp
  have M1 := Lib.hid (M0.out.trans hm (by simp))
  have B1 := Lib.hid (hm.heap B0.out (by simpa using HNE.out))
  clear hp hm
  go_wp2_with fail
  refine (ru32_any H1.out).mono ?_; rintro e w2 ⟨rfl, hp, hm⟩
  rw [G2.out] at hp ⊢
  have H2 := Lib.hid hp
  have M2 := Lib.hid (M1.out.trans hm (by simp))
  have B2 := Lib.hid (hm.heap B1.out (by simpa using HNE.out))
  clear hp hm
  go_wp2_with fail
  refine (ru64_any H2.out).mono ?_; rintro e w3 ⟨rfl, hp, hm⟩
  rw [G3.out] at hp ⊢
  have H3 := Lib.hid hp
  have M3 := Lib.hid (M2.out.trans hm (by simp))
  have B3 := Lib.hid (hm.heap B2.out (by simpa using HNE.out))
  clear hp hm
  go_wp2_with fail
  refine (err_any H3.out).mono ?_; rintro e w4 ⟨rfl, k, rfl⟩
  have H4 := Lib.hid (H3.out.drewN k)
  have M4 := Lib.hid (M3.out.drewN k)
  have b4 : (w3.drewN k).heap[w.heap.size]? = some (.cells #[.int .u8 0, .int .u32 0, .int .u64 0] 88 (0, 0)) := B3.out
  generalize w3.drewN k = w4 at *
  have B4 := Lib.hid b4
  have c0 : w4.cell? ⟨w.heap.size, 0, none⟩ = some (.int .u8 0) := by rw [cell_of_row _ _ _ _ _ _ b4]; rfl
  have c1 : w4.cell? ⟨w.heap.size, 1, none⟩ = some (.int .u32 0) := by rw [cell_of_row _ _ _ _ _ _ b4]; rfl
  have c2 : w4.cell? ⟨w.heap.size, 2, none⟩ = some (.int .u64 0) := by rw [cell_of_row _ _ _ _ _ _ b4]; rfl
  have f0 : w4.frozen? ⟨w.heap.size, 0, none⟩ = false := frozen_of_row _ _ _ _ _ b4
  have f1 : w4.frozen? ⟨w.heap.size, 1, none⟩ = false := frozen_of_row _ _ _ _ _ b4
  have f2 : w4.frozen? ⟨w.heap.size, 2, none⟩ = false := frozen_of_row _ _ _ _ _ b4
  clear b4
  by_cases he : g3.2.err = 0
  · have hb : (g3.2.err != 0) = false := by rw [he]; rfl
    have HE := Lib.hid he
    clear he
    go_wp2_with fail
    refine bodyPost_ret (v := .agg #[.int .u8 (g1.1 : Int), .int .u32 (g2.1 : Int), .int .u64 (g3.1 : Int)]) (by simp [results, Tryd.results146, go_sem, c0, c1, c2]) rfl ⟨?_, ?_, ?_⟩
    · rw [HQ.out, if_neg (by simpa using HE.out)]
      rfl
    · rw [HQ.out]
      exact ((H4.out.setNew HNE.out HV.out _ _).setNew HNE.out HV.out _ _).setNew HNE.out HV.out _ _
    · exact ((M4.out.setCell (p := ⟨w.heap.size, 0, none⟩) (Or.inr (Nat.le_refl _)) _).setCell (p := ⟨w.heap.size, 1, none⟩) (Or.inr (Nat.le_refl _)) _).setCell (p := ⟨w.heap.size, 2, none⟩) (Or.inr (Nat.le_refl _)) _
  · have hb : (g3.2.err != 0) = true := by simpa using he
    have HE := Lib.hid he
    clear he
    go_wp2_with fail
    refine bodyPost_ret (v := .agg #[.int .u8 0, .int .u32 0, .int .u64 0]) (by simp [results, Tryd.results146, go_sem, c0, c1, c2]) rfl ⟨?_, ?_, ?_⟩
    · rw [HQ.out, if_pos HE.out]
      rfl
    · rw [HQ.out]
      exact ((H4.out.setNew HNE.out HV.out _ _).setNew HNE.out HV.out _ _).setNew HNE.out HV.out _ _
    · exact ((M4.out.setCell (p := ⟨w.heap.size, 0, none⟩) (Or.inr (Nat.le_refl _)) _).setCell (p := ⟨w.heap.size, 1, none⟩) (Or.inr (Nat.le_refl _)) _).setCell (p := ⟨w.heap.size, 2, none⟩) (Or.inr (Nat.le_refl _)) _
end Go.Proofs.YtedddekkbgaolaaDoor
