/- Modes: the bits that an entry may have, asked by masks and asked by numbers. No program. -/
import Derived.Test.YtmcekhgmmocajaaGreatDoorTn
import Derived.WalkKit
namespace Go.Proofs.YtmcekhgmmocajaaGreatDoor
open Go.RowKit

theorem and_mask (n k j : Nat) : n &&& ((2 ^ j - 1) * 2 ^ k) = (n / 2 ^ k % 2 ^ j) * 2 ^ k := by
  apply Nat.eq_of_testBit_eq
  intro i
  rw [Nat.testBit_and, Nat.testBit_mul_two_pow, Nat.testBit_mul_two_pow, Nat.testBit_two_pow_sub_one, Nat.testBit_mod_two_pow, Nat.testBit_div_two_pow]
  by_cases h : k ≤ i
  · rw [show i - k + k = i by omega]
    simp [h, Bool.and_comm]
  · simp [h]
def sub1 (m b : Nat) : Nat := if b ≤ m then m - b else m
def bitsRest (m : Nat) : Nat := sub1 (sub1 (sub1 (sub1 m 2147483648) 1073741824) 536870912) 67108864
theorem and_rest (m : Nat) : m &&& 469761536 = (m / 134217728 % 4) * 134217728 + (m / 512 % 131072) * 512 := by
  have e : (469761536 : Nat) = (2 ^ 2 - 1) * 2 ^ 27 ||| (2 ^ 17 - 1) * 2 ^ 9 := by decide
  rw [e, Nat.and_or_distrib_left, and_mask, and_mask]
  have h : (m / 2 ^ 9 % 2 ^ 17) * 2 ^ 9 < 2 ^ 27 := by omega
  rw [Nat.or_comm, Nat.mul_comm (m / 2 ^ 27 % 2 ^ 2), Nat.or_comm, ← Nat.two_pow_add_eq_or_of_lt h]
theorem rest_iff (m : Nat) (h : m < 4294967296) : (m &&& 469761536 = 0) ↔ bitsRest m < 512 := by
  rw [and_rest]
  unfold bitsRest sub1
  constructor
  · intro h0
    repeat' split
    all_goals omega
  · repeat' split
    all_goals omega
theorem and_two (m : Nat) : m &&& 1610612736 = (m / 536870912 % 4) * 536870912 := and_mask m 29 2
theorem two_iff (m : Nat) : (m &&& 1610612736 ≠ 0) ↔ (m / 1073741824 % 2 = 1 ∨ m / 536870912 % 2 = 1) := by
  rw [and_two]
  omega
theorem and_dir (m : Nat) (h : m < 4294967296) : (m &&& 2147483648 ≠ 0) ↔ 2147483648 ≤ m := by
  have := and_mask m 31 1
  rw [show (2147483648 : Nat) = (2 ^ 1 - 1) * 2 ^ 31 by decide, this]
  omega
theorem bits_and (m K : Nat) (h : m < 4294967296) (hK : K < 4294967296) : (bits .and .u32 (m : Int) (K : Int) != 0) = decide (m &&& K ≠ 0) := by
  rw [u32_and_nat m K h hK]
  by_cases h0 : m &&& K = 0 <;> simp [h0]
theorem bits_andNot (m : Nat) (h : m < 4294967296) : (bits .andNot .u32 (m : Int) 3825205759 != 0) = decide (512 ≤ bitsRest m) := by
  rw [show (3825205759 : Int) = ((3825205759 : Nat) : Int) from rfl, u32_andNot_nat m _ h (by omega)]
  have := rest_iff m h
  show (((m &&& 469761536 : Nat) : Int) != 0) = _
  by_cases h0 : m &&& 469761536 = 0
  · have := this.1 h0
    rw [h0]
    simp
    omega
  · have hh : ¬ bitsRest m < 512 := fun hc => h0 (this.2 hc)
    have e : (((m &&& 469761536 : Nat) : Int) != 0) = true := bne_iff_ne.2 (by omega)
    rw [e]
    simp
    omega
def isDirN (m : Nat) : Bool := decide (2147483648 ≤ m)
theorem bits_dir (m : Nat) (h : m < 4294967296) : (bits .and .u32 (m : Int) 2147483648 != 0) = isDirN m := by
  have := bits_and m 2147483648 h (by omega)
  rw [show ((2147483648 : Nat) : Int) = 2147483648 from rfl] at this
  rw [this]
  exact decide_eq_decide.2 (and_dir m h)
/-- Append-only, or for one user at a time. -/
def twoN (m : Nat) : Bool := decide (m / 1073741824 % 2 = 1 ∨ m / 536870912 % 2 = 1)
theorem bits_two (m : Nat) (h : m < 4294967296) : (bits .and .u32 (m : Int) 1610612736 != 0) = twoN m := by
  have := bits_and m 1610612736 h (by omega)
  rw [show ((1610612736 : Nat) : Int) = 1610612736 from rfl] at this
  rw [this]
  exact decide_eq_decide.2 (two_iff m)
end Go.Proofs.YtmcekhgmmocajaaGreatDoor
