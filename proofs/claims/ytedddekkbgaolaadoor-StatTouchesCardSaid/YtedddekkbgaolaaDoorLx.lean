/- A large region whose operations but the last ones leave the world as it is: its order's check in parts. Over any program. -/
import Derived.StillTailTactics
namespace Go.Proofs.YtedddekkbgaolaaDoor.Me
open Go

section
variable {md : Region.Mode} {ops : Array Oper}
/-- The first k of m are listed. -/
def lst (m k : Nat) : Array Bool := (List.replicate k true ++ List.replicate (m - k) false).toArray
theorem lst_set {m k : Nat} (h : k < m) : (lst m k).setIfInBounds k true = lst m (k + 1) := by
  unfold lst
  rw [show m - k = (m - (k + 1)) + 1 by omega, List.replicate_succ, List.replicate_succ' (n := k)]
  simp
theorem lst_zero (m : Nat) : Array.replicate m false = lst m 0 := by simp [lst]
def headN (md : Region.Mode) (ops : Array Oper) : Nat → Nat → Array Bool → Bool
  | 0, _, _ => true
  | f + 1, k, listed => (Region.ready md ops listed).contains k && Region.free md ops listed k && headN md ops f (k + 1) (listed.setIfInBounds k true)
theorem headN_go {m g : Nat} (f f' k : Nat) (h1 : headN md ops f k (lst m k) = true) (hk : k + f ≤ m) (h2 : Region.lexHead md ops g f' (k + f) (lst m (k + f)) = true) : Region.lexHead md ops g (f + f') k (lst m k) = true := by
  induction f generalizing k with
  | zero => simpa using h2
  | succ f ih =>
    simp only [headN, Bool.and_eq_true] at h1
    rw [show f + 1 + f' = (f + f') + 1 by omega]
    simp only [Region.lexHead, Bool.and_eq_true]
    rw [lst_set (by omega)] at h1 ⊢
    exact ⟨h1.1, ih (k + 1) h1.2 (by omega) (by rw [show k + 1 + f = k + (f + 1) by omega]; exact h2)⟩
theorem lexTail_mk {n m : Nat} (hm : ops.size = m) (h0 : (Region.noSelect ops && decide (n < ops.size) && Region.sinkB md ops n && Region.chainB md ops n) = true) (hh : Region.lexHead md ops (m - n) n 0 (lst m 0) = true) : Region.lexTailB md ops n = true := by
  unfold Region.lexTailB
  rw [h0, hm, lst_zero, hh]
  rfl
end
end Go.Proofs.YtedddekkbgaolaaDoor.Me
