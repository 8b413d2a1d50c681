/- A reader as a plain function on lists of bytes: what the calls of layer 1 do, by the document. No program. -/
import Derived.Test.YtmcekhgmmocajaaGreatDoorWire
namespace Go.Proofs.YtmcekhgmmocajaaGreatDoor

/-- The number that bytes are, the lowest first. -/
def val : List UInt8 → Nat
  | [] => 0
  | b :: l => b.toNat + 256 * val l
theorem val_append (a b : List UInt8) : val (a ++ b) = val a + 256 ^ a.length * val b := by
  induction a with
  | nil => simp [val]
  | cons x a ih =>
    simp only [List.cons_append, val, ih, List.length_cons, Nat.pow_succ, Nat.mul_add]
    rw [Nat.mul_comm (256 ^ a.length) 256, Nat.mul_assoc]
    omega
theorem val_lt (l : List UInt8) : val l < 256 ^ l.length := by
  induction l with
  | nil => simp [val]
  | cons x l ih =>
    have := x.toNat_lt
    simp only [val, List.length_cons, Nat.pow_succ]
    omega

structure RSt where
  bytes : List UInt8
  place : Nat
  base : Nat
  err : Int
  spot : Nat

namespace RSt
def wrong (S : RSt) (e : Int) (behind : Nat) : RSt := if S.err = 0 ∧ e ≠ 0 then { S with err := e, spot := S.base + S.place + behind } else S
def rest (S : RSt) : List UInt8 := S.bytes.drop S.place
/-- A number of so many bytes. -/
def get (S : RSt) (k : Nat) : Nat × RSt :=
  if S.err ≠ 0 then (0, S) else if S.rest.length < k then (0, S.wrong 10 0) else (val (S.rest.take k), { S with place := S.place + k })
def raw (S : RSt) (n : Int) : List UInt8 × RSt :=
  if S.err ≠ 0 then ([], S) else if n < 0 then ([], S.wrong 1 0) else if (S.rest.length : Int) < n then ([], S.wrong 10 0) else (S.rest.take n.toNat, { S with place := S.place + n.toNat })
def counted (S : RSt) : Option Nat × RSt :=
  if S.err ≠ 0 then (none, S) else if S.rest.length < 2 then (none, S.wrong 10 0)
  else if S.rest.length < 2 + val (S.rest.take 2) then (none, S.wrong 10 0) else (some (val (S.rest.take 2)), S)
def part2 (S : RSt) (n : Nat) : List UInt8 := (S.rest.drop 2).take n
def text (S : RSt) : List UInt8 × RSt :=
  match S.counted with
  | (none, S') => ([], S')
  | (some n, S') => if Tx.good (S.part2 n) then (S.part2 n, { S' with place := S'.place + 2 + n }) else ([], S'.wrong 12 (2 + Tx.badL (S.part2 n)))
/-- Part: the reader of the part, and what the first one is then. -/
def part (S : RSt) : RSt × RSt :=
  match S.counted with
  | (none, S') => (⟨[], 0, S'.spot, S'.err, S'.spot⟩, S')
  | (some n, S') => (⟨S.part2 n, 0, S.base + (S.place + 2), 0, 0⟩, { S' with place := S'.place + 2 + n })
def fin (S : RSt) : RSt := if S.place < S.bytes.length then S.wrong 14 0 else S
def left (S : RSt) : Nat := if S.err ≠ 0 then 0 else S.bytes.length - S.place

/-- What is so of every reader. -/
structure Wf (S : RSt) : Prop where
  place : S.place ≤ S.bytes.length
  size : S.base + S.bytes.length ≤ 140737488355328
  spot : S.spot ≤ 140737488355328
  lo : -9223372036854775808 ≤ S.err
  hi : S.err ≤ 9223372036854775807

theorem Wf.wrong {S : RSt} (h : S.Wf) {e : Int} (h1 : -9223372036854775808 ≤ e) (h2 : e ≤ 9223372036854775807) {n : Nat} (hn : S.place + n ≤ S.bytes.length) : (S.wrong e n).Wf := by
  unfold RSt.wrong
  split
  · exact ⟨h.place, h.size, by have := h.size; show S.base + S.place + n ≤ _; omega, h1, h2⟩
  · exact h
theorem Wf.go {S : RSt} (h : S.Wf) {k : Nat} (hk : S.place + k ≤ S.bytes.length) : ({ S with place := S.place + k } : RSt).Wf := ⟨hk, h.size, h.spot, h.lo, h.hi⟩
theorem Wf.get {S : RSt} (h : S.Wf) (k : Nat) : (S.get k).2.Wf := by
  unfold RSt.get
  split
  · exact h
  · split
    · exact h.wrong (by omega) (by omega) (by have := h.place; omega)
    · rename_i hk
      have := h.place
      simp only [rest, List.length_drop] at hk
      exact h.go (by omega)
theorem Wf.counted {S : RSt} (h : S.Wf) : S.counted.2.Wf := by
  unfold RSt.counted
  have := h.place
  repeat' split
  all_goals first | exact h | exact h.wrong (by omega) (by omega) (by omega)
end RSt
end Go.Proofs.YtmcekhgmmocajaaGreatDoor
