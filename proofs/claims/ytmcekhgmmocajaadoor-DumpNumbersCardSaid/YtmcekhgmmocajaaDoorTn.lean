/- Of a dump's bytes: one byte less, one more, or one turned, and no list of entries is written so. No program. -/
import Derived.Test.YtmcekhgmmocajaaDoorEn
namespace Go.Proofs.YtmcekhgmmocajaaDoor

theorem mulS_inj {a b : Nat} (ha : a < 18446744073709551616) (hb : b < 18446744073709551616) (h : mulS a = mulS b) : a = b := by
  have key : ∀ x : Nat, x < 18446744073709551616 → (mulS x * 13132758862238501221) % 18446744073709551616 = x := by
    intro x hx
    unfold mulS
    rw [Nat.mod_mul_mod, Nat.mul_assoc, show 11800147728694460525 * 13132758862238501221 = 1 + 18446744073709551616 * 8400858928844686789 by decide, Nat.mul_add, Nat.mul_one, ← Nat.mul_assoc, Nat.mul_comm x 18446744073709551616, Nat.mul_assoc, Nat.add_mul_mod_self_left]
    exact Nat.mod_eq_of_lt hx
  rw [← key a ha, h, key b hb]
theorem xor_zero_eq {x z : Nat} (h : x ^^^ z = 0) : x = z := by
  have : (x ^^^ z) ^^^ z = 0 ^^^ z := by rw [h]
  rwa [Nat.xor_assoc, Nat.xor_self, Nat.xor_zero, Nat.zero_xor] at this
theorem shS_inj {x z : Nat} (h : shS x = shS z) : x = z := by
  unfold shS at h
  have h1 : (x ^^^ z) = (x ^^^ z) >>> 29 := by
    rw [Nat.shiftRight_xor_distrib]
    have : x ^^^ z ^^^ ((x >>> 29) ^^^ (z >>> 29)) = 0 := by
      have e : x ^^^ z ^^^ ((x >>> 29) ^^^ (z >>> 29)) = (x ^^^ (x >>> 29)) ^^^ (z ^^^ (z >>> 29)) := by
        rw [Nat.xor_assoc, Nat.xor_assoc]
        congr 1
        rw [← Nat.xor_assoc, Nat.xor_comm z, Nat.xor_assoc]
      rw [e, h, Nat.xor_self]
    exact xor_zero_eq this
  have h2 : (x ^^^ z) = 0 := by
    rw [Nat.shiftRight_eq_div_pow] at h1
    generalize x ^^^ z = d at h1
    omega
  exact xor_zero_eq h2
theorem xor_inj_left {a b n : Nat} (h : a ^^^ n = b ^^^ n) : a = b := by
  have : (a ^^^ n) ^^^ n = (b ^^^ n) ^^^ n := by rw [h]
  rwa [Nat.xor_assoc, Nat.xor_self, Nat.xor_zero, Nat.xor_assoc, Nat.xor_self, Nat.xor_zero] at this
theorem xor_lt64 {a b : Nat} (ha : a < 18446744073709551616) (hb : b < 18446744073709551616) : a ^^^ b < 18446744073709551616 := Nat.xor_lt_two_pow (n := 64) ha hb
theorem stepS_inj {h g n m : Nat} (hh : h < 18446744073709551616) (hg : g < 18446744073709551616) (hn : n < 18446744073709551616) (hm : m < 18446744073709551616) (e : stepS h n = stepS g m) : h ^^^ n = g ^^^ m := by
  have e1 : mulS (h ^^^ n) = mulS (g ^^^ m) := shS_inj e
  exact mulS_inj (xor_lt64 hh hn) (xor_lt64 hg hm) e1
theorem sumF_cons (b : UInt8) (l : List UInt8) (h : Nat) : sumF (b :: l) h = sumF l (stepS h (b.toNat + 1)) := by
  unfold sumF
  rw [List.foldl_cons]
theorem sumF_lt (l : List UInt8) {h : Nat} (hh : h < 18446744073709551616) : sumF l h < 18446744073709551616 := by
  induction l generalizing h with
  | nil => exact hh
  | cons b l ih => rw [sumF_cons]; exact ih (stepS_lt h (b.toNat + 1))
theorem byte_lt64 (b : UInt8) : b.toNat + 1 < 18446744073709551616 := by have := b.toNat_lt; omega
theorem sumF_inj : ∀ (l : List UInt8) {h g : Nat}, h < 18446744073709551616 → g < 18446744073709551616 → sumF l h = sumF l g → h = g
  | [], _, _, _, _, e => e
  | b :: l, h, g, hh, hg, e => by
    rw [sumF_cons, sumF_cons] at e
    have := sumF_inj l (stepS_lt h (b.toNat + 1)) (stepS_lt g (b.toNat + 1)) e
    exact xor_inj_left (stepS_inj hh hg (byte_lt64 b) (byte_lt64 b) this)
theorem sumF_append (a b : List UInt8) (h : Nat) : sumF (a ++ b) h = sumF b (sumF a h) := by simp [sumF]
/-- One byte turned: another sum. -/
theorem sumD_turned (a c : List UInt8) (x y : UInt8) (h : sumD (a ++ x :: c) = sumD (a ++ y :: c)) (hl : (a ++ x :: c).length < 18446744073709551616) : x = y := by
  unfold sumD at h
  have s0 : (7880330927811272263 : Nat) < 18446744073709551616 := by decide
  have h1 := xor_inj_left (stepS_inj (stepS_lt _ _) (stepS_lt _ _) (by omega) (by omega) h)
  have el : (a ++ y :: c).length = (a ++ x :: c).length := by simp
  rw [el] at h1
  have h2 := xor_inj_left (stepS_inj (sumF_lt _ s0) (sumF_lt _ s0) hl hl h1)
  rw [sumF_append, sumF_append] at h2
  rw [sumF_cons, sumF_cons] at h2
  have h3 := sumF_inj c (stepS_lt _ _) (stepS_lt _ _) h2
  have h4 := stepS_inj (sumF_lt a s0) (sumF_lt a s0) (byte_lt64 x) (byte_lt64 y) h3
  rw [Nat.xor_comm, Nat.xor_comm (sumF a _)] at h4
  have h5 := xor_inj_left h4
  exact UInt8.toNat_inj.1 (by omega)
def Sound (l : List EntP) : Prop := (∀ e ∈ l, e.Fine) ∧ l.length < 4294967296
/-- Of two dumps' bytes that begin with one another's bodies the lists are one. -/
theorem same_body {l m : List EntP} (hl : Sound l) (hm : Sound m) {r s : List UInt8} (h : bodyD l ++ r = bodyD m ++ s) : l = m := by
  have h1 := readD_on l r hl.1 hl.2
  rw [h, readD_on m s hm.1 hm.2] at h1
  exact (Option.some.inj h1).symm
theorem not_shorter {l m : List EntP} (hl : Sound l) (hm : Sound m) (h : fullD m = (fullD l).take ((fullD l).length - 1)) : False := by
  have e : l = m := by
    refine same_body hl hm (r := le (sumD (bodyD l)) 8) (s := le (sumD (bodyD m)) 8 ++ (fullD l).drop ((fullD l).length - 1)) ?_
    rw [← List.append_assoc]
    show fullD l = fullD m ++ _
    rw [h, List.take_append_drop]
  subst e
  have := congrArg List.length h
  rw [List.length_take, fullD_length] at this
  omega
theorem not_longer {l m : List EntP} (hl : Sound l) (hm : Sound m) {x : UInt8} (h : fullD m = fullD l ++ [x]) : False := by
  have e : l = m := by
    refine same_body hl hm (r := le (sumD (bodyD l)) 8 ++ [x]) (s := le (sumD (bodyD m)) 8) ?_
    rw [← List.append_assoc]
    exact h.symm
  subst e
  have := congrArg List.length h
  simp at this
theorem not_turned {l m : List EntP} {k : Nat} {x : UInt8} (hk : k < (fullD l).length) (hlen : (fullD l).length < 18446744073709551616) (h : fullD m = (fullD l).set k x) (hx : (fullD l)[k]? ≠ some x) : False := by
  have e1 := congrArg List.length h
  rw [List.length_set, fullD_length, fullD_length] at e1
  have eb : (bodyD m).length = (bodyD l).length := by rw [bodyD_length, bodyD_length]; omega
  rcases Nat.lt_or_ge k (bodyD l).length with hlt | hge
  · unfold fullD at h hx
    rw [List.set_append_left _ _ hlt] at h
    rw [List.getElem?_append_left hlt] at hx
    have h1 := List.append_inj h (by rw [List.length_set]; exact eb)
    have hd : bodyD l = (bodyD l).take k ++ (bodyD l)[k] :: (bodyD l).drop (k + 1) := by
      rw [← List.drop_eq_getElem_cons hlt, List.take_append_drop]
    have hs : (bodyD l).set k x = (bodyD l).take k ++ x :: (bodyD l).drop (k + 1) := by
      rw [List.set_eq_take_append_cons_drop, if_pos hlt]
    have h2 := congrArg val h1.2
    rw [val_le_of (sumD_lt _), val_le_of (sumD_lt _), h1.1, hs] at h2
    rw [hd] at h2
    have hz : ((bodyD l).take k ++ x :: (bodyD l).drop (k + 1)).length < 18446744073709551616 := by
      rw [← hs, List.length_set]
      have := fullD_length l
      have := bodyD_length l
      omega
    have h3 := sumD_turned _ _ _ _ (by
      rw [← hd]
      rw [← hd] at h2
      exact h2) hz
    rw [List.getElem?_eq_getElem hlt] at hx
    exact hx (by rw [← h3])
  · unfold fullD at h hx
    rw [List.set_append_right _ _ hge] at h
    rw [List.getElem?_append_right hge] at hx
    have h1 := List.append_inj h eb
    have h2 := h1.2
    rw [h1.1] at h2
    have hk2 : k - (bodyD l).length < (le (sumD (bodyD l)) 8).length := by
      rw [le_length]
      rw [fullD_length] at hk
      rw [bodyD_length]
      omega
    apply hx
    have h3 := congrArg (·[k - (bodyD l).length]?) h2
    simp only [List.getElem?_set_self hk2] at h3
    exact h3
end Go.Proofs.YtmcekhgmmocajaaDoor
