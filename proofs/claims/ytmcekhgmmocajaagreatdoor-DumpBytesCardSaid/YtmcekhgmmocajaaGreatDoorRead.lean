/- Texts as lists of bytes: how many bytes the character in front has, where the first piece is that makes a list no text, where a list is cut; and what holds of these. No program. | Where a list of bytes is cut, and how a string is read character by character: the model's own reading against the characters of the plain text. No program. | A writer and a reader as plain functions on lists of bytes: what the calls of layer 1 do, by the document. No program. | A reader as a plain function on lists of bytes: what the calls of layer 1 do, by the document. No program. -/
import Derived.Lib.DecodeN
import Derived.Lib.Strings
namespace Go.Proofs.YtmcekhgmmocajaaGreatDoor.Tx
open Go Go.Lib

/-- The byte at a place; 0 behind the end. -/
def bt (l : List UInt8) (i : Nat) : Nat := match l[i]? with | some b => b.toNat | none => 0

theorem bt_lt (l : List UInt8) (i : Nat) : bt l i < 256 := by
  unfold bt
  split
  · exact UInt8.toNat_lt _
  · omega
theorem bt_some {l : List UInt8} {i : Nat} {b : UInt8} (h : l[i]? = some b) : bt l i = b.toNat := by simp [bt, h]
theorem bt_at {l : List UInt8} {i : Nat} (h : i < l.length) : bt l i = l[i].toNat := bt_some (List.getElem?_eq_getElem h)
theorem bt_drop (l : List UInt8) (p i : Nat) : bt (l.drop p) i = bt l (p + i) := by simp [bt]

/-- How many bytes the character has that begins b0 b1 b2 b3, of n bytes that are left; 0: none begins there. -/
def chrN (n b0 b1 b2 b3 : Nat) : Nat :=
  if b0 < 128 then 1
  else if (194 ≤ b0 ∧ b0 ≤ 223) ∧ 1 < n ∧ 128 ≤ b1 ∧ b1 ≤ 191 then 2
  else if (224 ≤ b0 ∧ b0 ≤ 239) ∧ (1 < n ∧ (if b0 = 224 then 160 else 128) ≤ b1 ∧ b1 ≤ (if b0 = 237 then 159 else 191)) ∧ 2 < n ∧ 128 ≤ b2 ∧ b2 ≤ 191 then 3
  else if (240 ≤ b0 ∧ b0 ≤ 244) ∧ (1 < n ∧ (if b0 = 240 then 144 else 128) ≤ b1 ∧ b1 ≤ (if b0 = 244 then 143 else 191)) ∧ (2 < n ∧ 128 ≤ b2 ∧ b2 ≤ 191) ∧ 3 < n ∧ 128 ≤ b3 ∧ b3 ≤ 191 then 4
  else 0

set_option maxHeartbeats 1000000 in
theorem decodeN_chrN (n b0 b1 b2 b3 : Nat) (_h0 : b0 < 256) (_h1 : b1 < 256) (_h2 : b2 < 256) (_h3 : b3 < 256) :
    (chrN n b0 b1 b2 b3 = 0 → decodeN n b0 b1 b2 b3 = (65533, 1)) ∧
    (chrN n b0 b1 b2 b3 ≠ 0 → (decodeN n b0 b1 b2 b3).2 = chrN n b0 b1 b2 b3 ∧ ((decodeN n b0 b1 b2 b3).1 = 0 ↔ b0 = 0) ∧ ((decodeN n b0 b1 b2 b3).1 = 65533 → chrN n b0 b1 b2 b3 = 3)) := by
  unfold chrN decodeN
  repeat' split
  all_goals first | (exfalso; omega) | (refine ⟨fun h => ?_, fun h => ⟨?_, ?_, ?_⟩⟩ <;> first | rfl | (exfalso; omega) | (simp only; omega) | (simp only; intro _; omega) | (intro _; rfl))


theorem chrN_le (n b0 b1 b2 b3 : Nat) (hn : 0 < n) : chrN n b0 b1 b2 b3 ≤ n ∧ chrN n b0 b1 b2 b3 ≤ 4 := by
  unfold chrN
  repeat' split
  all_goals omega

/-- How many bytes the character in front has; 0: none begins there. -/
def chr (l : List UInt8) : Nat := if l = [] then 0 else chrN l.length (bt l 0) (bt l 1) (bt l 2) (bt l 3)

theorem chr_of_ne {l : List UInt8} (h : l ≠ []) : chr l = chrN l.length (bt l 0) (bt l 1) (bt l 2) (bt l 3) := if_neg h
theorem chr_le (l : List UInt8) : chr l ≤ l.length ∧ chr l ≤ 4 := by
  unfold chr
  split
  · simp
  · rename_i h
    exact chrN_le _ _ _ _ _ (List.length_pos_iff.2 h)
theorem ne_of_chr {l : List UInt8} (h : chr l ≠ 0) : l ≠ [] := by
  rintro rfl
  exact h rfl


/-- The place of the first piece that is no character, or is 00; how many bytes there are, if there is none. -/
def badF : Nat → List UInt8 → Nat
  | 0, _ => 0
  | f + 1, l => if l = [] then 0 else if chr l = 0 ∨ bt l 0 = 0 then 0 else chr l + badF f (l.drop (chr l))
def badL (l : List UInt8) : Nat := badF l.length l

theorem badF_more : ∀ (f g : Nat) (l : List UInt8), l.length ≤ f → l.length ≤ g → badF f l = badF g l
  | 0, 0, _, _, _ => rfl
  | 0, g + 1, l, h, _ => by
    have : l = [] := List.eq_nil_of_length_eq_zero (by omega)
    simp [badF, this]
  | f + 1, 0, l, _, h => by
    have : l = [] := List.eq_nil_of_length_eq_zero (by omega)
    simp [badF, this]
  | f + 1, g + 1, l, h1, h2 => by
    simp only [badF]
    split
    · rfl
    · split
      · rfl
      · rename_i hc
        have hc' : chr l ≠ 0 := fun e => hc (Or.inl e)
        have := (chr_le l).1
        rw [badF_more f g _ (by simp; omega) (by simp; omega)]
theorem badL_nil : badL [] = 0 := rfl
theorem badL_bad {l : List UInt8} (h : chr l = 0 ∨ bt l 0 = 0) : badL l = 0 := by
  unfold badL
  cases hl : l.length with
  | zero => rfl
  | succ n =>
    simp only [badF]
    split
    · rfl
    · simp
theorem badL_good {l : List UInt8} (h : chr l ≠ 0) (h0 : bt l 0 ≠ 0) : badL l = chr l + badL (l.drop (chr l)) := by
  have hl := ne_of_chr h
  have hc := (chr_le l).1
  unfold badL
  cases hn : l.length with
  | zero => exact absurd (List.eq_nil_of_length_eq_zero hn) hl
  | succ n =>
    simp only [badF]
    rw [if_neg hl, if_neg (by omega), badF_more n (l.drop (chr l)).length _ (by simp; omega) (Nat.le_refl _)]

/-- By the pieces: to hold of every list, it holds of the empty one, where a piece is bad, and in front of a good one. -/
theorem byPieces {C : List UInt8 → Prop} (hnil : C []) (hbad : ∀ l, l ≠ [] → (chr l = 0 ∨ bt l 0 = 0) → C l) (hgood : ∀ l, chr l ≠ 0 → bt l 0 ≠ 0 → C (l.drop (chr l)) → C l) : ∀ l, C l := by
  have key : ∀ (n : Nat) (l : List UInt8), l.length ≤ n → C l := by
    intro n
    induction n with
    | zero =>
      intro l h
      rw [List.eq_nil_of_length_eq_zero (by omega : l.length = 0)]
      exact hnil
    | succ n ih =>
      intro l h
      by_cases hl : l = []
      · rw [hl]; exact hnil
      · by_cases hc : chr l = 0 ∨ bt l 0 = 0
        · exact hbad l hl hc
        · have h1 : chr l ≠ 0 := fun e => hc (Or.inl e)
          exact hgood l h1 (fun e => hc (Or.inr e)) (ih _ (by simp; omega))
  exact fun l => key l.length l (Nat.le_refl _)

theorem badL_le : ∀ l, badL l ≤ l.length :=
  byPieces (by simp [badL_nil]) (fun l _ h => by simp [badL_bad h]) fun l h h0 ih => by
    rw [badL_good h h0]
    have := (chr_le l).1
    simp only [List.length_drop] at ih
    omega

/-- Is it a text? -/
def good (l : List UInt8) : Bool := badL l == l.length
theorem good_iff (l : List UInt8) : good l = true ↔ badL l = l.length := by simp [good]




end Go.Proofs.YtmcekhgmmocajaaGreatDoor.Tx
namespace Go.Proofs.YtmcekhgmmocajaaGreatDoor.Tx
open Go Go.Lib






/-- How the model reads a string. -/
theorem get_bt (s : ByteArray) (i : Nat) : (s.get! i).toNat = bt s.data.toList i := by
  by_cases h : i < s.data.size
  · have : s.get! i = s.data[i] := by
      show s.data[i]! = _
      rw [getElem!_pos s.data i h]
    rw [this, bt_at (by simpa using h)]
    simp
  · have : s.get! i = default := by
      show s.data[i]! = _
      rw [getElem!_neg s.data i h]
    rw [this]
    have hn : s.data.toList[i]? = none := List.getElem?_eq_none (by simpa using h)
    simp only [bt, hn]
    rfl
theorem decode_text (s : ByteArray) (p : Nat) (hp : p < s.size) :
    (chr (s.data.toList.drop p) = 0 → Utf8.decode s p = (65533, 1)) ∧
    (chr (s.data.toList.drop p) ≠ 0 → (Utf8.decode s p).2 = chr (s.data.toList.drop p) ∧ ((Utf8.decode s p).1 = 0 ↔ bt (s.data.toList.drop p) 0 = 0) ∧ ((Utf8.decode s p).1 = 65533 → chr (s.data.toList.drop p) = 3)) := by
  have hl : (s.data.toList.drop p).length = s.size - p := by simp
  have hne : s.data.toList.drop p ≠ [] := by
    intro e
    rw [e] at hl
    simp at hl
    omega
  rw [decode_at, chr_of_ne hne, hl, get_bt, get_bt, get_bt, get_bt, bt_drop, bt_drop, bt_drop, bt_drop, Nat.add_zero]
  exact decodeN_chrN _ _ _ _ _ (bt_lt _ _) (bt_lt _ _) (bt_lt _ _) (bt_lt _ _)
theorem tail_list (s : ByteArray) (p : Nat) : (s.extract p s.size).data.toList = s.data.toList.drop p := by
  rw [Lib.extract_data, List.take_of_length_le (by simp)]
theorem decode_tail (s : ByteArray) (p : Nat) : Utf8.decode (s.extract p s.size) 0 = Utf8.decode s p := by
  have hz : (s.extract p s.size).size = s.size - p := by simp
  rw [decode_at, decode_at, get_bt, get_bt, get_bt, get_bt, get_bt, get_bt, get_bt, get_bt, tail_list, hz, bt_drop, bt_drop, bt_drop, bt_drop]
  simp

end Go.Proofs.YtmcekhgmmocajaaGreatDoor.Tx
namespace Go.Proofs.YtmcekhgmmocajaaGreatDoor

/-- A number as so many bytes, the lowest first. -/
def le (n : Nat) : Nat → List UInt8
  | 0 => []
  | k + 1 => UInt8.ofNat n :: le (n / 256) k
theorem le_length (n k : Nat) : (le n k).length = k := by
  induction k generalizing n with
  | zero => rfl
  | succ k ih => simp [le, ih]

structure WSt where
  limit : Nat
  bytes : List UInt8
  opens : List Nat
  err : Nat

namespace WSt
def put (S : WSt) (bs : List UInt8) : WSt :=
  if S.err ≠ 0 then S else if S.limit < S.bytes.length + bs.length then { S with err := 11 } else { S with bytes := S.bytes ++ bs }
def text (S : WSt) (l : List UInt8) : WSt :=
  if S.err ≠ 0 then S else if 65535 < l.length then { S with err := 13 } else if Tx.good l = false then { S with err := 12 } else S.put (le l.length 2 ++ l)
/-- Open: what is then, and the place that is told. -/
def opn (S : WSt) : WSt × Nat :=
  if (S.put [0, 0]).err ≠ 0 then (S.put [0, 0], 0) else ({ S.put [0, 0] with opens := S.opens ++ [S.bytes.length] }, S.bytes.length)
/-- Shut, of a place. -/
def shut (S : WSt) (p : Int) : WSt :=
  if S.err ≠ 0 then S
  else match S.opens.getLast? with
    | none => { S with err := 1 }
    | some q => if (q : Int) ≠ p then { S with err := 1 }
      else if 65535 < S.bytes.length - q - 2 then { S with err := 13 }
      else { S with bytes := (S.bytes.set q (UInt8.ofNat (S.bytes.length - q - 2))).set (q + 1) (UInt8.ofNat ((S.bytes.length - q - 2) / 256)), opens := S.opens.dropLast }
def done (S : WSt) : List UInt8 × Nat :=
  if S.err ≠ 0 then ([], S.err) else if S.opens ≠ [] then ([], 1) else (S.bytes, 0)

/-- What is so of every writer. -/
structure Wf (S : WSt) : Prop where
  limit : S.limit ≤ 16777216
  bytes : S.bytes.length ≤ S.limit
  opens : ∀ q ∈ S.opens, q + 2 ≤ S.bytes.length
  many : S.opens.length ≤ S.bytes.length
  err : S.err ≤ 100

theorem Wf.put {S : WSt} (h : S.Wf) (bs : List UInt8) : (S.put bs).Wf := by
  unfold WSt.put
  split
  · exact h
  · split
    · exact ⟨h.limit, h.bytes, h.opens, h.many, by simp⟩
    · refine ⟨h.limit, by simp only [List.length_append]; omega, fun q hq => ?_, ?_, h.err⟩
      · have := h.opens q hq
        simp only [List.length_append]
        omega
      · have := h.many
        simp only [List.length_append]
        omega
theorem put_err {S : WSt} (bs : List UInt8) (h : S.err ≠ 0) : S.put bs = S := if_pos h
theorem put_full {S : WSt} (bs : List UInt8) (h : S.err = 0) (hf : S.limit < S.bytes.length + bs.length) : S.put bs = { S with err := 11 } := by
  unfold put
  rw [if_neg (by omega), if_pos hf]
theorem put_fits {S : WSt} (bs : List UInt8) (h : S.err = 0) (hf : ¬ S.limit < S.bytes.length + bs.length) : S.put bs = { S with bytes := S.bytes ++ bs } := by
  unfold put
  rw [if_neg (by omega), if_neg hf]
theorem Wf.text {S : WSt} (h : S.Wf) (l : List UInt8) : (S.text l).Wf := by
  unfold WSt.text
  split
  · exact h
  · split
    · exact ⟨h.limit, h.bytes, h.opens, h.many, by simp⟩
    · split
      · exact ⟨h.limit, h.bytes, h.opens, h.many, by simp⟩
      · exact h.put _
theorem Wf.opn {S : WSt} (h : S.Wf) : S.opn.1.Wf := by
  unfold WSt.opn
  split
  · exact h.put _
  · rename_i he
    have hp := h.put [0, 0]
    by_cases h0 : S.err = 0
    · by_cases hf : S.limit < S.bytes.length + 2
      · exfalso
        apply he
        rw [put_full _ h0 (by simpa using hf)]
        simp
      · have e := put_fits (S := S) [0, 0] h0 (by simpa using hf)
        rw [e] at hp ⊢
        refine ⟨hp.limit, hp.bytes, fun q hq => ?_, ?_, hp.err⟩
        · rcases List.mem_append.1 hq with hq | hq
          · exact hp.opens q hq
          · simp at hq
            subst hq
            simp
        · have := h.many
          simp only [List.length_append, List.length_cons, List.length_nil]
          omega
    · exfalso
      apply he
      rw [put_err _ h0]
      exact h0
theorem Wf.shut {S : WSt} (h : S.Wf) (p : Int) : (S.shut p).Wf := by
  unfold WSt.shut
  split
  · exact h
  · split
    · exact ⟨h.limit, h.bytes, h.opens, h.many, by simp⟩
    · split
      · exact ⟨h.limit, h.bytes, h.opens, h.many, by simp⟩
      · split
        · exact ⟨h.limit, h.bytes, h.opens, h.many, by simp⟩
        · refine ⟨h.limit, by simpa using h.bytes, fun q hq => ?_, ?_, h.err⟩
          · have := h.opens q (List.dropLast_subset _ hq)
            simpa using this
          · have := h.many
            simp
            omega
end WSt
end Go.Proofs.YtmcekhgmmocajaaGreatDoor
namespace Go.Proofs.YtmcekhgmmocajaaGreatDoor

/-- The number that bytes are, the lowest first. -/
def val : List UInt8 → Nat
  | [] => 0
  | b :: l => b.toNat + 256 * val l
theorem val_append (a b : List UInt8) : val (a ++ b) = val a + 256 ^ a.length * val b := by
  induction a with
  | nil => simp [val]
  | cons x a ih =>
    simp only [List.cons_append, val, ih, List.length_cons, Nat.pow_succ, Nat.mul_add]
    rw [Nat.mul_comm (256 ^ a.length) 256, Nat.mul_assoc]
    omega
theorem val_lt (l : List UInt8) : val l < 256 ^ l.length := by
  induction l with
  | nil => simp [val]
  | cons x l ih =>
    have := x.toNat_lt
    simp only [val, List.length_cons, Nat.pow_succ]
    omega

structure RSt where
  bytes : List UInt8
  place : Nat
  base : Nat
  err : Int
  spot : Nat

namespace RSt
def wrong (S : RSt) (e : Int) (behind : Nat) : RSt := if S.err = 0 ∧ e ≠ 0 then { S with err := e, spot := S.base + S.place + behind } else S
def rest (S : RSt) : List UInt8 := S.bytes.drop S.place
/-- A number of so many bytes. -/
def get (S : RSt) (k : Nat) : Nat × RSt :=
  if S.err ≠ 0 then (0, S) else if S.rest.length < k then (0, S.wrong 10 0) else (val (S.rest.take k), { S with place := S.place + k })
def raw (S : RSt) (n : Int) : List UInt8 × RSt :=
  if S.err ≠ 0 then ([], S) else if n < 0 then ([], S.wrong 1 0) else if (S.rest.length : Int) < n then ([], S.wrong 10 0) else (S.rest.take n.toNat, { S with place := S.place + n.toNat })
def counted (S : RSt) : Option Nat × RSt :=
  if S.err ≠ 0 then (none, S) else if S.rest.length < 2 then (none, S.wrong 10 0)
  else if S.rest.length < 2 + val (S.rest.take 2) then (none, S.wrong 10 0) else (some (val (S.rest.take 2)), S)
def part2 (S : RSt) (n : Nat) : List UInt8 := (S.rest.drop 2).take n
def text (S : RSt) : List UInt8 × RSt :=
  match S.counted with
  | (none, S') => ([], S')
  | (some n, S') => if Tx.good (S.part2 n) then (S.part2 n, { S' with place := S'.place + 2 + n }) else ([], S'.wrong 12 (2 + Tx.badL (S.part2 n)))
/-- Part: the reader of the part, and what the first one is then. -/
def part (S : RSt) : RSt × RSt :=
  match S.counted with
  | (none, S') => (⟨[], 0, S'.spot, S'.err, S'.spot⟩, S')
  | (some n, S') => (⟨S.part2 n, 0, S.base + (S.place + 2), 0, 0⟩, { S' with place := S'.place + 2 + n })
def fin (S : RSt) : RSt := if S.place < S.bytes.length then S.wrong 14 0 else S
def left (S : RSt) : Nat := if S.err ≠ 0 then 0 else S.bytes.length - S.place

/-- What is so of every reader. -/
structure Wf (S : RSt) : Prop where
  place : S.place ≤ S.bytes.length
  size : S.base + S.bytes.length ≤ 140737488355328
  spot : S.spot ≤ 140737488355328
  lo : -9223372036854775808 ≤ S.err
  hi : S.err ≤ 9223372036854775807

theorem Wf.wrong {S : RSt} (h : S.Wf) {e : Int} (h1 : -9223372036854775808 ≤ e) (h2 : e ≤ 9223372036854775807) {n : Nat} (hn : S.place + n ≤ S.bytes.length) : (S.wrong e n).Wf := by
  unfold RSt.wrong
  split
  · exact ⟨h.place, h.size, by have := h.size; show S.base + S.place + n ≤ _; omega, h1, h2⟩
  · exact h
theorem Wf.go {S : RSt} (h : S.Wf) {k : Nat} (hk : S.place + k ≤ S.bytes.length) : ({ S with place := S.place + k } : RSt).Wf := ⟨hk, h.size, h.spot, h.lo, h.hi⟩
theorem Wf.get {S : RSt} (h : S.Wf) (k : Nat) : (S.get k).2.Wf := by
  unfold RSt.get
  split
  · exact h
  · split
    · exact h.wrong (by omega) (by omega) (by have := h.place; omega)
    · rename_i hk
      have := h.place
      simp only [rest, List.length_drop] at hk
      exact h.go (by omega)
theorem Wf.counted {S : RSt} (h : S.Wf) : S.counted.2.Wf := by
  unfold RSt.counted
  have := h.place
  repeat' split
  all_goals first | exact h | exact h.wrong (by omega) (by omega) (by omega)
end RSt
end Go.Proofs.YtmcekhgmmocajaaGreatDoor
