/- A writer and a reader as plain functions on lists of bytes: what the calls of layer 1 do, by the document. No program. | A reader as a plain function on lists of bytes: what the calls of layer 1 do, by the document. No program. -/
import Derived.Test.YtlgoeipgmjcboaaGreatDoorText2
namespace Go.Proofs.YtlgoeipgmjcboaaGreatDoor

/-- A number as so many bytes, the lowest first. -/
def le (n : Nat) : Nat → List UInt8
  | 0 => []
  | k + 1 => UInt8.ofNat n :: le (n / 256) k
theorem le_length (n k : Nat) : (le n k).length = k := by
  induction k generalizing n with
  | zero => rfl
  | succ k ih => simp [le, ih]

structure WSt where
  limit : Nat
  bytes : List UInt8
  opens : List Nat
  err : Nat

namespace WSt
def put (S : WSt) (bs : List UInt8) : WSt :=
  if S.err ≠ 0 then S else if S.limit < S.bytes.length + bs.length then { S with err := 11 } else { S with bytes := S.bytes ++ bs }
def text (S : WSt) (l : List UInt8) : WSt :=
  if S.err ≠ 0 then S else if 65535 < l.length then { S with err := 13 } else if Tx.good l = false then { S with err := 12 } else S.put (le l.length 2 ++ l)
/-- Open: what is then, and the place that is told. -/
def opn (S : WSt) : WSt × Nat :=
  if (S.put [0, 0]).err ≠ 0 then (S.put [0, 0], 0) else ({ S.put [0, 0] with opens := S.opens ++ [S.bytes.length] }, S.bytes.length)
/-- Shut, of a place. -/
def shut (S : WSt) (p : Int) : WSt :=
  if S.err ≠ 0 then S
  else match S.opens.getLast? with
    | none => { S with err := 1 }
    | some q => if (q : Int) ≠ p then { S with err := 1 }
      else if 65535 < S.bytes.length - q - 2 then { S with err := 13 }
      else { S with bytes := (S.bytes.set q (UInt8.ofNat (S.bytes.length - q - 2))).set (q + 1) (UInt8.ofNat ((S.bytes.length - q - 2) / 256)), opens := S.opens.dropLast }
def done (S : WSt) : List UInt8 × Nat :=
  if S.err ≠ 0 then ([], S.err) else if S.opens ≠ [] then ([], 1) else (S.bytes, 0)

/-- What is so of every writer. -/
structure Wf (S : WSt) : Prop where
  limit : S.limit ≤ 16777216
  bytes : S.bytes.length ≤ S.limit
  opens : ∀ q ∈ S.opens, q + 2 ≤ S.bytes.length
  many : S.opens.length ≤ S.bytes.length
  err : S.err ≤ 100

theorem Wf.put {S : WSt} (h : S.Wf) (bs : List UInt8) : (S.put bs).Wf := by
  unfold WSt.put
  split
  · exact h
  · split
    · exact ⟨h.limit, h.bytes, h.opens, h.many, by simp⟩
    · refine ⟨h.limit, by simp only [List.length_append]; omega, fun q hq => ?_, ?_, h.err⟩
      · have := h.opens q hq
        simp only [List.length_append]
        omega
      · have := h.many
        simp only [List.length_append]
        omega
theorem put_err {S : WSt} (bs : List UInt8) (h : S.err ≠ 0) : S.put bs = S := if_pos h
theorem put_full {S : WSt} (bs : List UInt8) (h : S.err = 0) (hf : S.limit < S.bytes.length + bs.length) : S.put bs = { S with err := 11 } := by
  unfold put
  rw [if_neg (by omega), if_pos hf]
theorem put_fits {S : WSt} (bs : List UInt8) (h : S.err = 0) (hf : ¬ S.limit < S.bytes.length + bs.length) : S.put bs = { S with bytes := S.bytes ++ bs } := by
  unfold put
  rw [if_neg (by omega), if_neg hf]
theorem Wf.text {S : WSt} (h : S.Wf) (l : List UInt8) : (S.text l).Wf := by
  unfold WSt.text
  split
  · exact h
  · split
    · exact ⟨h.limit, h.bytes, h.opens, h.many, by simp⟩
    · split
      · exact ⟨h.limit, h.bytes, h.opens, h.many, by simp⟩
      · exact h.put _
theorem Wf.opn {S : WSt} (h : S.Wf) : S.opn.1.Wf := by
  unfold WSt.opn
  split
  · exact h.put _
  · rename_i he
    have hp := h.put [0, 0]
    by_cases h0 : S.err = 0
    · by_cases hf : S.limit < S.bytes.length + 2
      · exfalso
        apply he
        rw [put_full _ h0 (by simpa using hf)]
        simp
      · have e := put_fits (S := S) [0, 0] h0 (by simpa using hf)
        rw [e] at hp ⊢
        refine ⟨hp.limit, hp.bytes, fun q hq => ?_, ?_, hp.err⟩
        · rcases List.mem_append.1 hq with hq | hq
          · exact hp.opens q hq
          · simp at hq
            subst hq
            simp
        · have := h.many
          simp only [List.length_append, List.length_cons, List.length_nil]
          omega
    · exfalso
      apply he
      rw [put_err _ h0]
      exact h0
theorem Wf.shut {S : WSt} (h : S.Wf) (p : Int) : (S.shut p).Wf := by
  unfold WSt.shut
  split
  · exact h
  · split
    · exact ⟨h.limit, h.bytes, h.opens, h.many, by simp⟩
    · split
      · exact ⟨h.limit, h.bytes, h.opens, h.many, by simp⟩
      · split
        · exact ⟨h.limit, h.bytes, h.opens, h.many, by simp⟩
        · refine ⟨h.limit, by simpa using h.bytes, fun q hq => ?_, ?_, h.err⟩
          · have := h.opens q (List.dropLast_subset _ hq)
            simpa using this
          · have := h.many
            simp
            omega
end WSt
end Go.Proofs.YtlgoeipgmjcboaaGreatDoor
namespace Go.Proofs.YtlgoeipgmjcboaaGreatDoor

/-- The number that bytes are, the lowest first. -/
def val : List UInt8 → Nat
  | [] => 0
  | b :: l => b.toNat + 256 * val l
theorem val_append (a b : List UInt8) : val (a ++ b) = val a + 256 ^ a.length * val b := by
  induction a with
  | nil => simp [val]
  | cons x a ih =>
    simp only [List.cons_append, val, ih, List.length_cons, Nat.pow_succ, Nat.mul_add]
    rw [Nat.mul_comm (256 ^ a.length) 256, Nat.mul_assoc]
    omega
theorem val_lt (l : List UInt8) : val l < 256 ^ l.length := by
  induction l with
  | nil => simp [val]
  | cons x l ih =>
    have := x.toNat_lt
    simp only [val, List.length_cons, Nat.pow_succ]
    omega

structure RSt where
  bytes : List UInt8
  place : Nat
  base : Nat
  err : Int
  spot : Nat

namespace RSt
def wrong (S : RSt) (e : Int) (behind : Nat) : RSt := if S.err = 0 ∧ e ≠ 0 then { S with err := e, spot := S.base + S.place + behind } else S
def rest (S : RSt) : List UInt8 := S.bytes.drop S.place
/-- A number of so many bytes. -/
def get (S : RSt) (k : Nat) : Nat × RSt :=
  if S.err ≠ 0 then (0, S) else if S.rest.length < k then (0, S.wrong 10 0) else (val (S.rest.take k), { S with place := S.place + k })
def raw (S : RSt) (n : Int) : List UInt8 × RSt :=
  if S.err ≠ 0 then ([], S) else if n < 0 then ([], S.wrong 1 0) else if (S.rest.length : Int) < n then ([], S.wrong 10 0) else (S.rest.take n.toNat, { S with place := S.place + n.toNat })
def counted (S : RSt) : Option Nat × RSt :=
  if S.err ≠ 0 then (none, S) else if S.rest.length < 2 then (none, S.wrong 10 0)
  else if S.rest.length < 2 + val (S.rest.take 2) then (none, S.wrong 10 0) else (some (val (S.rest.take 2)), S)
def part2 (S : RSt) (n : Nat) : List UInt8 := (S.rest.drop 2).take n
def text (S : RSt) : List UInt8 × RSt :=
  match S.counted with
  | (none, S') => ([], S')
  | (some n, S') => if Tx.good (S.part2 n) then (S.part2 n, { S' with place := S'.place + 2 + n }) else ([], S'.wrong 12 (2 + Tx.badL (S.part2 n)))
/-- Part: the reader of the part, and what the first one is then. -/
def part (S : RSt) : RSt × RSt :=
  match S.counted with
  | (none, S') => (⟨[], 0, S'.spot, S'.err, S'.spot⟩, S')
  | (some n, S') => (⟨S.part2 n, 0, S.base + (S.place + 2), 0, 0⟩, { S' with place := S'.place + 2 + n })
def fin (S : RSt) : RSt := if S.place < S.bytes.length then S.wrong 14 0 else S
def left (S : RSt) : Nat := if S.err ≠ 0 then 0 else S.bytes.length - S.place

/-- What is so of every reader. -/
structure Wf (S : RSt) : Prop where
  place : S.place ≤ S.bytes.length
  size : S.base + S.bytes.length ≤ 140737488355328
  spot : S.spot ≤ 140737488355328
  lo : -9223372036854775808 ≤ S.err
  hi : S.err ≤ 9223372036854775807

theorem Wf.wrong {S : RSt} (h : S.Wf) {e : Int} (h1 : -9223372036854775808 ≤ e) (h2 : e ≤ 9223372036854775807) {n : Nat} (hn : S.place + n ≤ S.bytes.length) : (S.wrong e n).Wf := by
  unfold RSt.wrong
  split
  · exact ⟨h.place, h.size, by have := h.size; show S.base + S.place + n ≤ _; omega, h1, h2⟩
  · exact h
theorem Wf.go {S : RSt} (h : S.Wf) {k : Nat} (hk : S.place + k ≤ S.bytes.length) : ({ S with place := S.place + k } : RSt).Wf := ⟨hk, h.size, h.spot, h.lo, h.hi⟩
theorem Wf.get {S : RSt} (h : S.Wf) (k : Nat) : (S.get k).2.Wf := by
  unfold RSt.get
  split
  · exact h
  · split
    · exact h.wrong (by omega) (by omega) (by have := h.place; omega)
    · rename_i hk
      have := h.place
      simp only [rest, List.length_drop] at hk
      exact h.go (by omega)
theorem Wf.counted {S : RSt} (h : S.Wf) : S.counted.2.Wf := by
  unfold RSt.counted
  have := h.place
  repeat' split
  all_goals first | exact h | exact h.wrong (by omega) (by omega) (by omega)
end RSt
end Go.Proofs.YtlgoeipgmjcboaaGreatDoor
