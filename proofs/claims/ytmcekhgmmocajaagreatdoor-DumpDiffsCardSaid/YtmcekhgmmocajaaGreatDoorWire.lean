/- A writer and a reader as plain functions on lists of bytes: what the calls of layer 1 do, by the document. No program. -/
import Derived.Test.YtmcekhgmmocajaaGreatDoorText2
namespace Go.Proofs.YtmcekhgmmocajaaGreatDoor

/-- A number as so many bytes, the lowest first. -/
def le (n : Nat) : Nat → List UInt8
  | 0 => []
  | k + 1 => UInt8.ofNat n :: le (n / 256) k
theorem le_length (n k : Nat) : (le n k).length = k := by
  induction k generalizing n with
  | zero => rfl
  | succ k ih => simp [le, ih]

structure WSt where
  limit : Nat
  bytes : List UInt8
  opens : List Nat
  err : Nat

namespace WSt
def put (S : WSt) (bs : List UInt8) : WSt :=
  if S.err ≠ 0 then S else if S.limit < S.bytes.length + bs.length then { S with err := 11 } else { S with bytes := S.bytes ++ bs }
def text (S : WSt) (l : List UInt8) : WSt :=
  if S.err ≠ 0 then S else if 65535 < l.length then { S with err := 13 } else if Tx.good l = false then { S with err := 12 } else S.put (le l.length 2 ++ l)
/-- Open: what is then, and the place that is told. -/
def opn (S : WSt) : WSt × Nat :=
  if (S.put [0, 0]).err ≠ 0 then (S.put [0, 0], 0) else ({ S.put [0, 0] with opens := S.opens ++ [S.bytes.length] }, S.bytes.length)
/-- Shut, of a place. -/
def shut (S : WSt) (p : Int) : WSt :=
  if S.err ≠ 0 then S
  else match S.opens.getLast? with
    | none => { S with err := 1 }
    | some q => if (q : Int) ≠ p then { S with err := 1 }
      else if 65535 < S.bytes.length - q - 2 then { S with err := 13 }
      else { S with bytes := (S.bytes.set q (UInt8.ofNat (S.bytes.length - q - 2))).set (q + 1) (UInt8.ofNat ((S.bytes.length - q - 2) / 256)), opens := S.opens.dropLast }
def done (S : WSt) : List UInt8 × Nat :=
  if S.err ≠ 0 then ([], S.err) else if S.opens ≠ [] then ([], 1) else (S.bytes, 0)

/-- What is so of every writer. -/
structure Wf (S : WSt) : Prop where
  limit : S.limit ≤ 16777216
  bytes : S.bytes.length ≤ S.limit
  opens : ∀ q ∈ S.opens, q + 2 ≤ S.bytes.length
  many : S.opens.length ≤ S.bytes.length
  err : S.err ≤ 100

theorem Wf.put {S : WSt} (h : S.Wf) (bs : List UInt8) : (S.put bs).Wf := by
  unfold WSt.put
  split
  · exact h
  · split
    · exact ⟨h.limit, h.bytes, h.opens, h.many, by simp⟩
    · refine ⟨h.limit, by simp only [List.length_append]; omega, fun q hq => ?_, ?_, h.err⟩
      · have := h.opens q hq
        simp only [List.length_append]
        omega
      · have := h.many
        simp only [List.length_append]
        omega
theorem put_err {S : WSt} (bs : List UInt8) (h : S.err ≠ 0) : S.put bs = S := if_pos h
theorem put_full {S : WSt} (bs : List UInt8) (h : S.err = 0) (hf : S.limit < S.bytes.length + bs.length) : S.put bs = { S with err := 11 } := by
  unfold put
  rw [if_neg (by omega), if_pos hf]
theorem put_fits {S : WSt} (bs : List UInt8) (h : S.err = 0) (hf : ¬ S.limit < S.bytes.length + bs.length) : S.put bs = { S with bytes := S.bytes ++ bs } := by
  unfold put
  rw [if_neg (by omega), if_neg hf]
theorem Wf.text {S : WSt} (h : S.Wf) (l : List UInt8) : (S.text l).Wf := by
  unfold WSt.text
  split
  · exact h
  · split
    · exact ⟨h.limit, h.bytes, h.opens, h.many, by simp⟩
    · split
      · exact ⟨h.limit, h.bytes, h.opens, h.many, by simp⟩
      · exact h.put _
theorem Wf.opn {S : WSt} (h : S.Wf) : S.opn.1.Wf := by
  unfold WSt.opn
  split
  · exact h.put _
  · rename_i he
    have hp := h.put [0, 0]
    by_cases h0 : S.err = 0
    · by_cases hf : S.limit < S.bytes.length + 2
      · exfalso
        apply he
        rw [put_full _ h0 (by simpa using hf)]
        simp
      · have e := put_fits (S := S) [0, 0] h0 (by simpa using hf)
        rw [e] at hp ⊢
        refine ⟨hp.limit, hp.bytes, fun q hq => ?_, ?_, hp.err⟩
        · rcases List.mem_append.1 hq with hq | hq
          · exact hp.opens q hq
          · simp at hq
            subst hq
            simp
        · have := h.many
          simp only [List.length_append, List.length_cons, List.length_nil]
          omega
    · exfalso
      apply he
      rw [put_err _ h0]
      exact h0
theorem Wf.shut {S : WSt} (h : S.Wf) (p : Int) : (S.shut p).Wf := by
  unfold WSt.shut
  split
  · exact h
  · split
    · exact ⟨h.limit, h.bytes, h.opens, h.many, by simp⟩
    · split
      · exact ⟨h.limit, h.bytes, h.opens, h.many, by simp⟩
      · split
        · exact ⟨h.limit, h.bytes, h.opens, h.many, by simp⟩
        · refine ⟨h.limit, by simpa using h.bytes, fun q hq => ?_, ?_, h.err⟩
          · have := h.opens q (List.dropLast_subset _ hq)
            simpa using this
          · have := h.many
            simp
            omega
end WSt
end Go.Proofs.YtmcekhgmmocajaaGreatDoor
