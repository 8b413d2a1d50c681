/- Clean path names: their parts, on both sides. No program. -/
import Derived.Test.YtmcekhgmmocajaaGreatDoorRu
import Derived.Test.YtmcekhgmmocajaaGreatDoorSa
namespace Go.Proofs.YtmcekhgmmocajaaGreatDoor
open Go.RowKit

theorem clean_pieces (s : ByteArray) (hc : cleanB s = s) (hr : rootedB s = false) : (kept (pieces s) = [] ∧ s = ⟨#[46]⟩) ∨ (kept (pieces s) ≠ [] ∧ kept (pieces s) = pieces s) := by
  unfold cleanB at hc
  rw [hr] at hc
  by_cases h0 : reduce false (kept (pieces s)) = []
  · left
    rw [h0] at hc
    have hs : s = ⟨#[46]⟩ := hc.symm
    subst hs
    refine ⟨?_, rfl⟩
    rw [pc46]
    simp [kept, sk46]
  · right
    have hs : mkB (joinS (reduce false (kept (pieces s)))) = s := by
      unfold joinP at hc
      rw [if_neg (by simp), if_neg (by simpa using h0)] at hc
      exact hc
    have hmem : ∀ p ∈ reduce false (kept (pieces s)), p ∈ kept (pieces s) := fun p hp => reduce_mem _ _ _ hp
    have hp : pieces s = reduce false (kept (pieces s)) := by
      conv => lhs; rw [← hs]
      refine pieces_joinS _ h0 fun p hp => ?_
      have := hmem p hp
      unfold kept at this
      exact pieces_mem s p (List.mem_filter.1 this).1
    have hk : kept (pieces s) = pieces s := by
      unfold kept
      rw [List.filter_eq_self]
      intro p hpp
      rw [hp] at hpp
      have := hmem p hpp
      unfold kept at this
      exact (List.mem_filter.1 this).2
    refine ⟨?_, hk⟩
    rw [hk]
    exact pieces_ne s
theorem cut_head (l : List UInt8) : (cut l).head? = some (l.takeWhile (fun b => b != 47)) := by
  induction l with
  | nil => rfl
  | cons b l ih =>
    unfold cut
    by_cases hb : b = 47
    · simp [hb]
    · rw [if_neg hb]
      cases hc : cut l with
      | nil => exact absurd hc (cut_ne l)
      | cons p r =>
        rw [hc] at ih
        simp at ih
        simp [hb, ih]
theorem dots_take (l : List UInt8) : (l == [46, 46] || Lib.hasPrefix l [46, 46, 47]) = (l.takeWhile (fun b => b != 47) == [46, 46]) := by
  unfold Lib.hasPrefix
  match l with
  | [] => rfl
  | [a] =>
    by_cases h : a = 47 <;> simp [List.isPrefixOf, h]
  | [a, b] =>
    by_cases h : a = 47 <;> by_cases h2 : b = 47 <;> simp [List.isPrefixOf, h, h2]
    all_goals (intros; subst_vars; simp_all)
  | a :: b :: c :: t =>
    by_cases h : a = 47 <;> by_cases h2 : b = 47 <;> by_cases h3 : c = 47 <;> simp [List.isPrefixOf, h, h2, h3]
    all_goals (try (intros; subst_vars; simp_all; done))
    all_goals first
      | exact fun e => h3 e.symm
      | (rw [show ((46 : UInt8) == a) = (a == 46) from BEq.comm, show ((46 : UInt8) == b) = (b == 46) from BEq.comm])
      | (intros; subst_vars; simp_all; intro e; exact h3 e.symm)
/-- Does the path begin by going up? -/
theorem dots_head (s : ByteArray) (hc : cleanB s = s) (hr : rootedB s = false) : (s.toList == [46, 46] || Lib.hasPrefix s.data.toList [46, 46, 47]) = (match (kept (pieces s))[0]? with | some p => p.toList == [46, 46] | none => false) := by
  rw [Lib.toList_data]
  rcases clean_pieces s hc hr with ⟨h1, rfl⟩ | ⟨h1, h2⟩
  · rw [h1]
    rfl
  · rw [h2, dots_take]
    have h3 := cut_head s.data.toList
    have h4 : (pieces s)[0]? = some (mkB (s.data.toList.takeWhile (fun b => b != 47))) := by
      rw [pieces_eq, List.getElem?_map, ← List.head?_eq_getElem?, h3]
      rfl
    rw [h4]
    show _ = ((mkB _).toList == [46, 46])
    rw [Lib.toList_data, data_mkB]
theorem parts_same (s : ByteArray) (hf : fit (pieces s) = true) (hc : cleanB s = s) (hr : rootedB s = false) : partsP s = partsR s := by
  unfold partsP partsR
  rw [if_pos hf]
  rcases clean_pieces s hc hr with ⟨h1, rfl⟩ | ⟨h1, h2⟩
  · rw [h1]
    simp [Lib.toList_data]
  · have hne : (s.toList == [46]) = false := by
      rcases Bool.eq_false_or_eq_true (s.toList == [46]) with h | h
      · exfalso
        have e : s = ⟨#[46]⟩ := data_inj (by
          have := eq_of_beq h
          rwa [Lib.toList_data] at this)
        subst e
        apply h1
        rw [pc46]
        simp [kept, sk46]
      · exact h
    rw [hne, h2]
    rfl
end Go.Proofs.YtmcekhgmmocajaaGreatDoor
