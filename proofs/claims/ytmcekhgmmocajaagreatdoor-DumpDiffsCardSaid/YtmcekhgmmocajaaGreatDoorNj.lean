/- names.Join, walked. -/
import Derived.Test.YtmcekhgmmocajaaGreatDoorNp
import Derived.Test.YtmcekhgmmocajaaGreatDoorNt
namespace Go.Proofs.YtmcekhgmmocajaaGreatDoor
open Go.RowKit Me

theorem sjoin_any (l : List ByteArray) (v : Value) (w : World) (hv : Rd w v (l.map Value.string)) (hl : l.length ≤ 4294967296) (hj : (joinS l).length ≤ 140737488355328) :
    Calls Tryz.prog 49 #[v, .string ⟨#[47]⟩] w fun e w' => e = .returned (.string (mkB (joinS l))) ∧ Below w.heap.size w w' := by
  obtain ⟨A, c, rfl, h1, h2, h3⟩ := hv
  rw [List.length_map] at h1 ⊢
  cases l with
  | nil =>
    refine (Tryz.strings_Join_none A c ⟨#[47]⟩ w).mono ?_
    rintro e w' ⟨rfl, rfl⟩
    exact ⟨rfl, Below.refl _ _⟩
  | cons x l =>
    obtain ⟨g, o, rfl, h4⟩ := h3 0 _ rfl
    refine (Tryz.strings_Join g o c (x :: l) ⟨#[47]⟩ w (fun j y hy => ?_) (World.block_lt_of_cell? w _ h4) (by omega) h1 hj).mono ?_
    · obtain ⟨g', o', e, h5⟩ := h3 j (.string y) (by rw [List.getElem?_map, hy]; rfl)
      cases e
      exact h5
    · rintro e w' ⟨rfl, hb⟩
      exact ⟨rfl, hb⟩
theorem slash_mk (l : List UInt8) : (⟨#[47]⟩ : ByteArray) ++ mkB l = mkB (47 :: l) := by
  apply data_inj
  simp [mkB]
theorem box84 (w : World) (r : Bool) (v : Value) (w1 : World) (hb : Mods [] (w.alloc (.cells #[.bool r, v] 103)) w1) :
    w1.heap[w.heap.size]? = some (.cells #[.bool r, v] 103 (0, 0)) := hb.heap (heap_alloc_new w _) (by simp)
set_option maxRecDepth 100000 in
theorem njoin_any (r : Bool) (l : List ByteArray) (v : Value) (w : World) (hv : Rd w v (l.map Value.string)) (hl : l.length ≤ 4294967296) (hj : (joinS l).length ≤ 140737488355328) :
    Calls Tryz.prog 85 #[.agg #[.bool r, v]] w fun e w' => e = .returned (.string (joinP r l)) ∧ Below w.heap.size w w' := by
  have H := Lib.hid (fun w' (hw : Mods [] w w') => sjoin_any l v w' (hv.mods hw (by simp)) hl hj)
  obtain ⟨A, c, rfl, h1, h2, h3⟩ := hv
  rw [List.length_map] at *
  have HJ := Lib.hid (show joinP r l = if r then mkB (47 :: joinS l) else if l.isEmpty then ⟨#[46]⟩ else mkB (joinS l) from rfl)
  have HS := Lib.hid (slash_mk (joinS l))
  have HE := Lib.hid (show l.isEmpty = decide (l.length = 0) by cases l <;> simp)
  have hz : (mkB (joinS l)).size ≤ 140737488355328 := by
    simp only [mkB, ByteArray.size, List.size_toArray]
    exact hj
  clear h3
  generalize joinP r l = q at *
  generalize l.isEmpty = emp at *
  generalize l.length = n at *
  generalize joinS l = s at *
  clear hj
  have HA := Lib.hid (((Mods.refl [] w).alloc (.cells #[.bool r, .slice A n c] 103)))
  cases r
  all_goals go_enter Tryz.func85, Tryz.ntmps85
  all_goals go_wp2_with fail
  all_goals (refine (H.out _ HA.out).mono ?_; rintro e w1 ⟨rfl, hb⟩)
  all_goals have hbx := box84 _ _ _ _ (Mods.below hb [])
  all_goals have c0 := cell_of_row _ _ 0 _ _ _ hbx
  all_goals have c1 := cell_of_row _ _ 1 _ _ _ hbx
  all_goals simp only [List.getElem?_toArray, List.getElem?_cons_zero, List.getElem?_cons_succ] at c0 c1
  all_goals have HB := Lib.hid (HA.out.trans (Mods.below hb []) (by simp))
  all_goals clear hb hbx
  all_goals go_wp2_with fail
  all_goals go_ret
  all_goals refine ⟨?_, HB.out.toBelow (by simp)⟩
  all_goals (have hq := HJ.out; have he := HE.out; have hs := HS.out; clear HJ HE HS)
  all_goals simp_all
end Go.Proofs.YtmcekhgmmocajaaGreatDoor
