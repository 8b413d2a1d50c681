/- What may be can be written. -/
import Derived.Test.YtmcekhgmmocajaaGreatDoorEf
namespace Go.Proofs.YtmcekhgmmocajaaGreatDoor
open Go.RowKit Me

theorem good_join : ∀ (l : List ByteArray), (∀ p ∈ l, Tx.good p.data.toList = true) → Tx.good (joinS l) = true
  | [], _ => Tx.good_nil
  | [p], h => by rw [joinS_one]; exact h p (by simp)
  | p :: q :: l, h => by
    rw [joinS_cons2, Tx.good_append _ _ (h p (by simp))]
    have e : (47 : UInt8) :: joinS (q :: l) = [47] ++ joinS (q :: l) := rfl
    rw [e, Tx.good_append _ _ (by decide)]
    exact good_join (q :: l) (fun x hx => h x (by simp [hx]))
theorem good_piece {p : ByteArray} (h : (skipP p || fineP p) = true) : Tx.good p.data.toList = true := by
  unfold skipP fineP at h
  rw [Lib.toList_data] at h
  simp only [Bool.or_eq_true, List.isEmpty_iff, beq_iff_eq] at h
  rcases h with (h | h) | (h | h)
  · rw [h]; decide
  · rw [h]; decide
  · rw [h]; decide
  · unfold nameOk at h
    simp only [Bool.and_eq_true] at h
    exact h.2
theorem good_fit {s : ByteArray} (h : fit (pieces s) = true) : Tx.good s.data.toList = true := by
  rw [← joinS_pieces]
  refine good_join _ fun p hp => good_piece ?_
  unfold fit at h
  exact List.all_eq_true.1 h p hp
theorem may_fine {e : EntP} (hf : e.Fits) (h : mayE e = true) : e.Fine := by
  unfold mayE pathOk gidOk at h
  simp only [Bool.and_eq_true, decide_eq_true_eq] at h
  obtain ⟨⟨hp, _⟩, ⟨⟨hm, hg, hg2⟩, hd⟩, hps⟩ := h
  refine ⟨hf, textErr_of ?_ (good_fit hp.1.1.1.1), textErr_of ?_ hg, hd⟩
  · simp only [Array.length_toList, ByteArray.size_data]; omega
  · simp only [Array.length_toList, ByteArray.size_data]; omega
end Go.Proofs.YtmcekhgmmocajaaGreatDoor
