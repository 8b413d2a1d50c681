/- names.Split. -/
import Derived.Test.YtmcekhgmmocajaaDoorNa
import Derived.Lib.SplitLaws
namespace Go.Proofs.YtmcekhgmmocajaaDoor
open Go.RowKit

/-- The pieces between slashes. -/
def pieces (s : ByteArray) : List ByteArray := Lib.splitB ⟨#[47]⟩ 0 (Lib.countB s ⟨#[47]⟩) s
theorem splitB_size (sep : ByteArray) : ∀ (k : Nat) (s p : ByteArray), p ∈ Lib.splitB sep 0 k s → p.size ≤ s.size
  | 0, s, p, h => by rw [Lib.splitB_zero] at h; simp at h; subst h; exact Nat.le_refl _
  | k + 1, s, p, h => by
    unfold Lib.splitB at h
    split at h
    · simp at h; subst h; exact Nat.le_refl _
    · rcases List.mem_cons.1 h with rfl | h
      · simp; omega
      · have := splitB_size sep k _ p h
        simp at this; omega
theorem pieces_size (s p : ByteArray) (h : p ∈ pieces s) : p.size ≤ s.size := splitB_size _ _ _ _ h
theorem pieces_length (s : ByteArray) : (pieces s).length = Lib.countB s ⟨#[47]⟩ + 1 := Lib.splitB_all _ (by decide) 0 _ s rfl
def skipP (p : ByteArray) : Bool := p.toList.isEmpty || p.toList == [46]
def fineP (p : ByteArray) : Bool := p.toList == [46, 46] || nameOk p
/-- Are all pieces fine? -/
def fit (l : List ByteArray) : Bool := l.all (fun p => skipP p || fineP p)
def kept (l : List ByteArray) : List ByteArray := l.filter (fun p => !skipP p)
theorem kept_step (l : List ByteArray) (k : Nat) (p : ByteArray) (h : l[k]? = some p) : kept (l.take (k + 1)) = kept (l.take k) ++ (if skipP p then [] else [p]) := by
  rw [List.take_add_one, h]
  unfold kept
  rw [List.filter_append]
  cases hp : skipP p <;> simp [hp]
theorem fit_step (l : List ByteArray) (k : Nat) (p : ByteArray) (h : l[k]? = some p) : fit (l.take (k + 1)) = (fit (l.take k) && (skipP p || fineP p)) := by
  rw [List.take_add_one, h]
  unfold fit
  rw [List.all_append]
  simp
theorem fit_not (l : List ByteArray) (k : Nat) (h : fit (l.take k) = false) : fit l = false := by
  rw [← List.take_append_drop k l]
  unfold fit at h ⊢
  rw [List.all_append, h]
  rfl
end Go.Proofs.YtmcekhgmmocajaaDoor
