/- Texts as lists of bytes: how many bytes the character in front has, where the first piece is that makes a list no text, where a list is cut; and what holds of these. No program. | Where a list of bytes is cut, and how a string is read character by character: the model's own reading against the characters of the plain text. No program. | A writer and a reader as plain functions on lists of bytes: what the calls of layer 1 do, by the document. No program. | A reader as a plain function on lists of bytes: what the calls of layer 1 do, by the document. No program. | Texts that are made of characters' numbers: good, cut where a character ends, and no texts when something that is no character stands between two of them. No program. | Records as plain data: what the calls of layer 2 write and read; what is written is read again, and what is read is just what is written. No program. | Which fields a record touches, and a record over another one, as plain functions: what touches nothing changes nothing; touched fields and no others are as wanted; once is enough. No program. -/
import Derived.Lib.DecodeN
import Derived.Lib.Strings
namespace Go.Proofs.YtnpokdbpmnkbjaaGreatDoor.Tx
open Go Go.Lib

/-- The byte at a place; 0 behind the end. -/
def bt (l : List UInt8) (i : Nat) : Nat := match l[i]? with | some b => b.toNat | none => 0

theorem bt_lt (l : List UInt8) (i : Nat) : bt l i < 256 := by
  unfold bt
  split
  · exact UInt8.toNat_lt _
  · omega
theorem bt_some {l : List UInt8} {i : Nat} {b : UInt8} (h : l[i]? = some b) : bt l i = b.toNat := by simp [bt, h]
theorem bt_at {l : List UInt8} {i : Nat} (h : i < l.length) : bt l i = l[i].toNat := bt_some (List.getElem?_eq_getElem h)
theorem bt_drop (l : List UInt8) (p i : Nat) : bt (l.drop p) i = bt l (p + i) := by simp [bt]

/-- How many bytes the character has that begins b0 b1 b2 b3, of n bytes that are left; 0: none begins there. -/
def chrN (n b0 b1 b2 b3 : Nat) : Nat :=
  if b0 < 128 then 1
  else if (194 ≤ b0 ∧ b0 ≤ 223) ∧ 1 < n ∧ 128 ≤ b1 ∧ b1 ≤ 191 then 2
  else if (224 ≤ b0 ∧ b0 ≤ 239) ∧ (1 < n ∧ (if b0 = 224 then 160 else 128) ≤ b1 ∧ b1 ≤ (if b0 = 237 then 159 else 191)) ∧ 2 < n ∧ 128 ≤ b2 ∧ b2 ≤ 191 then 3
  else if (240 ≤ b0 ∧ b0 ≤ 244) ∧ (1 < n ∧ (if b0 = 240 then 144 else 128) ≤ b1 ∧ b1 ≤ (if b0 = 244 then 143 else 191)) ∧ (2 < n ∧ 128 ≤ b2 ∧ b2 ≤ 191) ∧ 3 < n ∧ 128 ≤ b3 ∧ b3 ≤ 191 then 4
  else 0

set_option maxHeartbeats 1000000 in
theorem decodeN_chrN (n b0 b1 b2 b3 : Nat) (_h0 : b0 < 256) (_h1 : b1 < 256) (_h2 : b2 < 256) (_h3 : b3 < 256) :
    (chrN n b0 b1 b2 b3 = 0 → decodeN n b0 b1 b2 b3 = (65533, 1)) ∧
    (chrN n b0 b1 b2 b3 ≠ 0 → (decodeN n b0 b1 b2 b3).2 = chrN n b0 b1 b2 b3 ∧ ((decodeN n b0 b1 b2 b3).1 = 0 ↔ b0 = 0) ∧ ((decodeN n b0 b1 b2 b3).1 = 65533 → chrN n b0 b1 b2 b3 = 3)) := by
  unfold chrN decodeN
  repeat' split
  all_goals first | (exfalso; omega) | (refine ⟨fun h => ?_, fun h => ⟨?_, ?_, ?_⟩⟩ <;> first | rfl | (exfalso; omega) | (simp only; omega) | (simp only; intro _; omega) | (intro _; rfl))


theorem chrN_le (n b0 b1 b2 b3 : Nat) (hn : 0 < n) : chrN n b0 b1 b2 b3 ≤ n ∧ chrN n b0 b1 b2 b3 ≤ 4 := by
  unfold chrN
  repeat' split
  all_goals omega

/-- How many bytes the character in front has; 0: none begins there. -/
def chr (l : List UInt8) : Nat := if l = [] then 0 else chrN l.length (bt l 0) (bt l 1) (bt l 2) (bt l 3)

theorem chr_of_ne {l : List UInt8} (h : l ≠ []) : chr l = chrN l.length (bt l 0) (bt l 1) (bt l 2) (bt l 3) := if_neg h
theorem chr_le (l : List UInt8) : chr l ≤ l.length ∧ chr l ≤ 4 := by
  unfold chr
  split
  · simp
  · rename_i h
    exact chrN_le _ _ _ _ _ (List.length_pos_iff.2 h)
theorem ne_of_chr {l : List UInt8} (h : chr l ≠ 0) : l ≠ [] := by
  rintro rfl
  exact h rfl


/-- The place of the first piece that is no character, or is 00; how many bytes there are, if there is none. -/
def badF : Nat → List UInt8 → Nat
  | 0, _ => 0
  | f + 1, l => if l = [] then 0 else if chr l = 0 ∨ bt l 0 = 0 then 0 else chr l + badF f (l.drop (chr l))
def badL (l : List UInt8) : Nat := badF l.length l

theorem badF_more : ∀ (f g : Nat) (l : List UInt8), l.length ≤ f → l.length ≤ g → badF f l = badF g l
  | 0, 0, _, _, _ => rfl
  | 0, g + 1, l, h, _ => by
    have : l = [] := List.eq_nil_of_length_eq_zero (by omega)
    simp [badF, this]
  | f + 1, 0, l, _, h => by
    have : l = [] := List.eq_nil_of_length_eq_zero (by omega)
    simp [badF, this]
  | f + 1, g + 1, l, h1, h2 => by
    simp only [badF]
    split
    · rfl
    · split
      · rfl
      · rename_i hc
        have hc' : chr l ≠ 0 := fun e => hc (Or.inl e)
        have := (chr_le l).1
        rw [badF_more f g _ (by simp; omega) (by simp; omega)]
theorem badL_nil : badL [] = 0 := rfl
theorem badL_bad {l : List UInt8} (h : chr l = 0 ∨ bt l 0 = 0) : badL l = 0 := by
  unfold badL
  cases hl : l.length with
  | zero => rfl
  | succ n =>
    simp only [badF]
    split
    · rfl
    · simp
theorem badL_good {l : List UInt8} (h : chr l ≠ 0) (h0 : bt l 0 ≠ 0) : badL l = chr l + badL (l.drop (chr l)) := by
  have hl := ne_of_chr h
  have hc := (chr_le l).1
  unfold badL
  cases hn : l.length with
  | zero => exact absurd (List.eq_nil_of_length_eq_zero hn) hl
  | succ n =>
    simp only [badF]
    rw [if_neg hl, if_neg (by omega), badF_more n (l.drop (chr l)).length _ (by simp; omega) (Nat.le_refl _)]

/-- By the pieces: to hold of every list, it holds of the empty one, where a piece is bad, and in front of a good one. -/
theorem byPieces {C : List UInt8 → Prop} (hnil : C []) (hbad : ∀ l, l ≠ [] → (chr l = 0 ∨ bt l 0 = 0) → C l) (hgood : ∀ l, chr l ≠ 0 → bt l 0 ≠ 0 → C (l.drop (chr l)) → C l) : ∀ l, C l := by
  have key : ∀ (n : Nat) (l : List UInt8), l.length ≤ n → C l := by
    intro n
    induction n with
    | zero =>
      intro l h
      rw [List.eq_nil_of_length_eq_zero (by omega : l.length = 0)]
      exact hnil
    | succ n ih =>
      intro l h
      by_cases hl : l = []
      · rw [hl]; exact hnil
      · by_cases hc : chr l = 0 ∨ bt l 0 = 0
        · exact hbad l hl hc
        · have h1 : chr l ≠ 0 := fun e => hc (Or.inl e)
          exact hgood l h1 (fun e => hc (Or.inr e)) (ih _ (by simp; omega))
  exact fun l => key l.length l (Nat.le_refl _)

theorem badL_le : ∀ l, badL l ≤ l.length :=
  byPieces (by simp [badL_nil]) (fun l _ h => by simp [badL_bad h]) fun l h h0 ih => by
    rw [badL_good h h0]
    have := (chr_le l).1
    simp only [List.length_drop] at ih
    omega

/-- Is it a text? -/
def good (l : List UInt8) : Bool := badL l == l.length
theorem good_iff (l : List UInt8) : good l = true ↔ badL l = l.length := by simp [good]




end Go.Proofs.YtnpokdbpmnkbjaaGreatDoor.Tx
namespace Go.Proofs.YtnpokdbpmnkbjaaGreatDoor.Tx
open Go Go.Lib






/-- How the model reads a string. -/
theorem get_bt (s : ByteArray) (i : Nat) : (s.get! i).toNat = bt s.data.toList i := by
  by_cases h : i < s.data.size
  · have : s.get! i = s.data[i] := by
      show s.data[i]! = _
      rw [getElem!_pos s.data i h]
    rw [this, bt_at (by simpa using h)]
    simp
  · have : s.get! i = default := by
      show s.data[i]! = _
      rw [getElem!_neg s.data i h]
    rw [this]
    have hn : s.data.toList[i]? = none := List.getElem?_eq_none (by simpa using h)
    simp only [bt, hn]
    rfl
theorem decode_text (s : ByteArray) (p : Nat) (hp : p < s.size) :
    (chr (s.data.toList.drop p) = 0 → Utf8.decode s p = (65533, 1)) ∧
    (chr (s.data.toList.drop p) ≠ 0 → (Utf8.decode s p).2 = chr (s.data.toList.drop p) ∧ ((Utf8.decode s p).1 = 0 ↔ bt (s.data.toList.drop p) 0 = 0) ∧ ((Utf8.decode s p).1 = 65533 → chr (s.data.toList.drop p) = 3)) := by
  have hl : (s.data.toList.drop p).length = s.size - p := by simp
  have hne : s.data.toList.drop p ≠ [] := by
    intro e
    rw [e] at hl
    simp at hl
    omega
  rw [decode_at, chr_of_ne hne, hl, get_bt, get_bt, get_bt, get_bt, bt_drop, bt_drop, bt_drop, bt_drop, Nat.add_zero]
  exact decodeN_chrN _ _ _ _ _ (bt_lt _ _) (bt_lt _ _) (bt_lt _ _) (bt_lt _ _)
theorem tail_list (s : ByteArray) (p : Nat) : (s.extract p s.size).data.toList = s.data.toList.drop p := by
  rw [Lib.extract_data, List.take_of_length_le (by simp)]
theorem decode_tail (s : ByteArray) (p : Nat) : Utf8.decode (s.extract p s.size) 0 = Utf8.decode s p := by
  have hz : (s.extract p s.size).size = s.size - p := by simp
  rw [decode_at, decode_at, get_bt, get_bt, get_bt, get_bt, get_bt, get_bt, get_bt, get_bt, tail_list, hz, bt_drop, bt_drop, bt_drop, bt_drop]
  simp

end Go.Proofs.YtnpokdbpmnkbjaaGreatDoor.Tx
namespace Go.Proofs.YtnpokdbpmnkbjaaGreatDoor

/-- A number as so many bytes, the lowest first. -/
def le (n : Nat) : Nat → List UInt8
  | 0 => []
  | k + 1 => UInt8.ofNat n :: le (n / 256) k
theorem le_length (n k : Nat) : (le n k).length = k := by
  induction k generalizing n with
  | zero => rfl
  | succ k ih => simp [le, ih]

structure WSt where
  limit : Nat
  bytes : List UInt8
  opens : List Nat
  err : Nat

namespace WSt
def put (S : WSt) (bs : List UInt8) : WSt :=
  if S.err ≠ 0 then S else if S.limit < S.bytes.length + bs.length then { S with err := 11 } else { S with bytes := S.bytes ++ bs }
def text (S : WSt) (l : List UInt8) : WSt :=
  if S.err ≠ 0 then S else if 65535 < l.length then { S with err := 13 } else if Tx.good l = false then { S with err := 12 } else S.put (le l.length 2 ++ l)
/-- Open: what is then, and the place that is told. -/
def opn (S : WSt) : WSt × Nat :=
  if (S.put [0, 0]).err ≠ 0 then (S.put [0, 0], 0) else ({ S.put [0, 0] with opens := S.opens ++ [S.bytes.length] }, S.bytes.length)
/-- Shut, of a place. -/
def shut (S : WSt) (p : Int) : WSt :=
  if S.err ≠ 0 then S
  else match S.opens.getLast? with
    | none => { S with err := 1 }
    | some q => if (q : Int) ≠ p then { S with err := 1 }
      else if 65535 < S.bytes.length - q - 2 then { S with err := 13 }
      else { S with bytes := (S.bytes.set q (UInt8.ofNat (S.bytes.length - q - 2))).set (q + 1) (UInt8.ofNat ((S.bytes.length - q - 2) / 256)), opens := S.opens.dropLast }
def done (S : WSt) : List UInt8 × Nat :=
  if S.err ≠ 0 then ([], S.err) else if S.opens ≠ [] then ([], 1) else (S.bytes, 0)

/-- What is so of every writer. -/
structure Wf (S : WSt) : Prop where
  limit : S.limit ≤ 16777216
  bytes : S.bytes.length ≤ S.limit
  opens : ∀ q ∈ S.opens, q + 2 ≤ S.bytes.length
  many : S.opens.length ≤ S.bytes.length
  err : S.err ≤ 100

theorem Wf.put {S : WSt} (h : S.Wf) (bs : List UInt8) : (S.put bs).Wf := by
  unfold WSt.put
  split
  · exact h
  · split
    · exact ⟨h.limit, h.bytes, h.opens, h.many, by simp⟩
    · refine ⟨h.limit, by simp only [List.length_append]; omega, fun q hq => ?_, ?_, h.err⟩
      · have := h.opens q hq
        simp only [List.length_append]
        omega
      · have := h.many
        simp only [List.length_append]
        omega
theorem put_err {S : WSt} (bs : List UInt8) (h : S.err ≠ 0) : S.put bs = S := if_pos h
theorem put_full {S : WSt} (bs : List UInt8) (h : S.err = 0) (hf : S.limit < S.bytes.length + bs.length) : S.put bs = { S with err := 11 } := by
  unfold put
  rw [if_neg (by omega), if_pos hf]
theorem put_fits {S : WSt} (bs : List UInt8) (h : S.err = 0) (hf : ¬ S.limit < S.bytes.length + bs.length) : S.put bs = { S with bytes := S.bytes ++ bs } := by
  unfold put
  rw [if_neg (by omega), if_neg hf]
theorem Wf.text {S : WSt} (h : S.Wf) (l : List UInt8) : (S.text l).Wf := by
  unfold WSt.text
  split
  · exact h
  · split
    · exact ⟨h.limit, h.bytes, h.opens, h.many, by simp⟩
    · split
      · exact ⟨h.limit, h.bytes, h.opens, h.many, by simp⟩
      · exact h.put _
theorem Wf.opn {S : WSt} (h : S.Wf) : S.opn.1.Wf := by
  unfold WSt.opn
  split
  · exact h.put _
  · rename_i he
    have hp := h.put [0, 0]
    by_cases h0 : S.err = 0
    · by_cases hf : S.limit < S.bytes.length + 2
      · exfalso
        apply he
        rw [put_full _ h0 (by simpa using hf)]
        simp
      · have e := put_fits (S := S) [0, 0] h0 (by simpa using hf)
        rw [e] at hp ⊢
        refine ⟨hp.limit, hp.bytes, fun q hq => ?_, ?_, hp.err⟩
        · rcases List.mem_append.1 hq with hq | hq
          · exact hp.opens q hq
          · simp at hq
            subst hq
            simp
        · have := h.many
          simp only [List.length_append, List.length_cons, List.length_nil]
          omega
    · exfalso
      apply he
      rw [put_err _ h0]
      exact h0
theorem Wf.shut {S : WSt} (h : S.Wf) (p : Int) : (S.shut p).Wf := by
  unfold WSt.shut
  split
  · exact h
  · split
    · exact ⟨h.limit, h.bytes, h.opens, h.many, by simp⟩
    · split
      · exact ⟨h.limit, h.bytes, h.opens, h.many, by simp⟩
      · split
        · exact ⟨h.limit, h.bytes, h.opens, h.many, by simp⟩
        · refine ⟨h.limit, by simpa using h.bytes, fun q hq => ?_, ?_, h.err⟩
          · have := h.opens q (List.dropLast_subset _ hq)
            simpa using this
          · have := h.many
            simp
            omega
end WSt
end Go.Proofs.YtnpokdbpmnkbjaaGreatDoor
namespace Go.Proofs.YtnpokdbpmnkbjaaGreatDoor

/-- The number that bytes are, the lowest first. -/
def val : List UInt8 → Nat
  | [] => 0
  | b :: l => b.toNat + 256 * val l
theorem val_append (a b : List UInt8) : val (a ++ b) = val a + 256 ^ a.length * val b := by
  induction a with
  | nil => simp [val]
  | cons x a ih =>
    simp only [List.cons_append, val, ih, List.length_cons, Nat.pow_succ, Nat.mul_add]
    rw [Nat.mul_comm (256 ^ a.length) 256, Nat.mul_assoc]
    omega
theorem val_lt (l : List UInt8) : val l < 256 ^ l.length := by
  induction l with
  | nil => simp [val]
  | cons x l ih =>
    have := x.toNat_lt
    simp only [val, List.length_cons, Nat.pow_succ]
    omega

structure RSt where
  bytes : List UInt8
  place : Nat
  base : Nat
  err : Int
  spot : Nat

namespace RSt
def wrong (S : RSt) (e : Int) (behind : Nat) : RSt := if S.err = 0 ∧ e ≠ 0 then { S with err := e, spot := S.base + S.place + behind } else S
def rest (S : RSt) : List UInt8 := S.bytes.drop S.place
/-- A number of so many bytes. -/
def get (S : RSt) (k : Nat) : Nat × RSt :=
  if S.err ≠ 0 then (0, S) else if S.rest.length < k then (0, S.wrong 10 0) else (val (S.rest.take k), { S with place := S.place + k })
def raw (S : RSt) (n : Int) : List UInt8 × RSt :=
  if S.err ≠ 0 then ([], S) else if n < 0 then ([], S.wrong 1 0) else if (S.rest.length : Int) < n then ([], S.wrong 10 0) else (S.rest.take n.toNat, { S with place := S.place + n.toNat })
def counted (S : RSt) : Option Nat × RSt :=
  if S.err ≠ 0 then (none, S) else if S.rest.length < 2 then (none, S.wrong 10 0)
  else if S.rest.length < 2 + val (S.rest.take 2) then (none, S.wrong 10 0) else (some (val (S.rest.take 2)), S)
def part2 (S : RSt) (n : Nat) : List UInt8 := (S.rest.drop 2).take n
def text (S : RSt) : List UInt8 × RSt :=
  match S.counted with
  | (none, S') => ([], S')
  | (some n, S') => if Tx.good (S.part2 n) then (S.part2 n, { S' with place := S'.place + 2 + n }) else ([], S'.wrong 12 (2 + Tx.badL (S.part2 n)))
/-- Part: the reader of the part, and what the first one is then. -/
def part (S : RSt) : RSt × RSt :=
  match S.counted with
  | (none, S') => (⟨[], 0, S'.spot, S'.err, S'.spot⟩, S')
  | (some n, S') => (⟨S.part2 n, 0, S.base + (S.place + 2), 0, 0⟩, { S' with place := S'.place + 2 + n })
def fin (S : RSt) : RSt := if S.place < S.bytes.length then S.wrong 14 0 else S
def left (S : RSt) : Nat := if S.err ≠ 0 then 0 else S.bytes.length - S.place

/-- What is so of every reader. -/
structure Wf (S : RSt) : Prop where
  place : S.place ≤ S.bytes.length
  size : S.base + S.bytes.length ≤ 140737488355328
  spot : S.spot ≤ 140737488355328
  lo : -9223372036854775808 ≤ S.err
  hi : S.err ≤ 9223372036854775807

theorem Wf.wrong {S : RSt} (h : S.Wf) {e : Int} (h1 : -9223372036854775808 ≤ e) (h2 : e ≤ 9223372036854775807) {n : Nat} (hn : S.place + n ≤ S.bytes.length) : (S.wrong e n).Wf := by
  unfold RSt.wrong
  split
  · exact ⟨h.place, h.size, by have := h.size; show S.base + S.place + n ≤ _; omega, h1, h2⟩
  · exact h
theorem Wf.go {S : RSt} (h : S.Wf) {k : Nat} (hk : S.place + k ≤ S.bytes.length) : ({ S with place := S.place + k } : RSt).Wf := ⟨hk, h.size, h.spot, h.lo, h.hi⟩
theorem Wf.get {S : RSt} (h : S.Wf) (k : Nat) : (S.get k).2.Wf := by
  unfold RSt.get
  split
  · exact h
  · split
    · exact h.wrong (by omega) (by omega) (by have := h.place; omega)
    · rename_i hk
      have := h.place
      simp only [rest, List.length_drop] at hk
      exact h.go (by omega)
theorem Wf.counted {S : RSt} (h : S.Wf) : S.counted.2.Wf := by
  unfold RSt.counted
  have := h.place
  repeat' split
  all_goals first | exact h | exact h.wrong (by omega) (by omega) (by omega)
end RSt
end Go.Proofs.YtnpokdbpmnkbjaaGreatDoor
namespace Go.Proofs.YtnpokdbpmnkbjaaGreatDoor.Tx
open Go Go.Lib

/-- A character's bytes. -/
def charL (n : Nat) : List UInt8 :=
  if n < 128 then [UInt8.ofNat n]
  else if n < 2048 then [UInt8.ofNat (192 + n / 64), UInt8.ofNat (128 + n % 64)]
  else if n < 65536 then [UInt8.ofNat (224 + n / 4096), UInt8.ofNat (128 + n / 64 % 64), UInt8.ofNat (128 + n % 64)]
  else [UInt8.ofNat (240 + n / 262144), UInt8.ofNat (128 + n / 4096 % 64), UInt8.ofNat (128 + n / 64 % 64), UInt8.ofNat (128 + n % 64)]


def made (ns : List Nat) : List UInt8 := ns.flatMap charL

end Go.Proofs.YtnpokdbpmnkbjaaGreatDoor.Tx
namespace Go.Proofs.YtnpokdbpmnkbjaaGreatDoor

structure QidP where
  kind : Nat
  vers : Nat
  path : Nat
structure StatP where
  typ : Nat
  dev : Nat
  qid : QidP
  mode : Nat
  atime : Nat
  mtime : Nat
  length : Nat
  name : ByteArray
  uid : ByteArray
  gid : ByteArray
  muid : ByteArray
structure QidP.Fits (q : QidP) : Prop where
  kind : q.kind < 256
  vers : q.vers < 4294967296
  path : q.path < 18446744073709551616
structure StatP.Fits (s : StatP) : Prop where
  typ : s.typ < 65536
  dev : s.dev < 4294967296
  qid : s.qid.Fits
  mode : s.mode < 4294967296
  atime : s.atime < 4294967296
  mtime : s.mtime < 4294967296
  length : s.length < 18446744073709551616
def QidP.zero : QidP := ⟨0, 0, 0⟩
def StatP.zero : StatP := ⟨0, 0, QidP.zero, 0, 0, 0, 0, ⟨#[]⟩, ⟨#[]⟩, ⟨#[]⟩, ⟨#[]⟩⟩

def txt (l : List UInt8) : List UInt8 := le l.length 2 ++ l
theorem txt_length (l : List UInt8) : (txt l).length = 2 + l.length := by simp [txt, le_length]

namespace StatP
def texts (s : StatP) : List ByteArray := [s.name, s.uid, s.gid, s.muid]
def size (s : StatP) : Nat := 49 + s.name.size + s.uid.size + s.gid.size + s.muid.size
def body (s : StatP) : List UInt8 :=
  le s.typ 2 ++ le s.dev 4 ++ le s.qid.kind 1 ++ le s.qid.vers 4 ++ le s.qid.path 8 ++ le s.mode 4 ++ le s.atime 4 ++ le s.mtime 4 ++ le s.length 8 ++
    txt s.name.data.toList ++ txt s.uid.data.toList ++ txt s.gid.data.toList ++ txt s.muid.data.toList
/-- The record's bytes. -/
def enc (s : StatP) : List UInt8 := txt s.body
theorem body_length (s : StatP) : s.body.length + 2 = s.size := by
  simp only [body, size, List.length_append, le_length, txt_length, Array.length_toList, ByteArray.size_data]
  omega
theorem enc_length (s : StatP) : s.enc.length = s.size := by
  rw [enc, txt_length, ← body_length]
  omega
end StatP
/-- What is wrong with a text; 0: nothing. -/
def textErr (t : ByteArray) : Nat := if 65535 < t.size then 13 else if Tx.good t.data.toList = true then 0 else 12
def firstErr : List ByteArray → Nat
  | [] => 0
  | t :: r => if textErr t ≠ 0 then textErr t else firstErr r
/-- Why a record can't be written; 0: it can. -/
def StatP.err (s : StatP) : Nat := if firstErr s.texts ≠ 0 then firstErr s.texts else if 65535 < s.size - 2 then 13 else 0
def StatP.encode (s : StatP) : List UInt8 × Nat := if s.err ≠ 0 then ([], s.err) else (s.enc, 0)

theorem textErr_zero {t : ByteArray} (h : textErr t = 0) : t.data.toList.length < 65536 ∧ Tx.good t.data.toList = true := by
  unfold textErr at h
  split at h
  · omega
  · split at h
    · refine ⟨?_, by assumption⟩
      simp only [Array.length_toList, ByteArray.size_data]
      omega
    · omega
theorem textErr_of {t : ByteArray} (h : t.data.toList.length < 65536) (hg : Tx.good t.data.toList = true) : textErr t = 0 := by
  simp only [Array.length_toList, ByteArray.size_data] at h
  unfold textErr
  rw [if_neg (by omega), if_pos hg]
theorem firstErr_zero {l : List ByteArray} : firstErr l = 0 ↔ ∀ t ∈ l, textErr t = 0 := by
  induction l with
  | nil => simp [firstErr]
  | cons t r ih =>
    simp only [firstErr, List.mem_cons, forall_eq_or_imp]
    by_cases h : textErr t = 0
    · simp [h, ih]
    · simp [h]
theorem StatP.err_zero {s : StatP} (h : s.err = 0) : (∀ t ∈ s.texts, textErr t = 0) ∧ s.body.length < 65536 := by
  have hb := s.body_length
  unfold StatP.err at h
  by_cases hf : firstErr s.texts = 0
  · rw [if_neg (by omega)] at h
    refine ⟨firstErr_zero.1 hf, ?_⟩
    by_cases hs : 65535 < s.size - 2
    · rw [if_pos hs] at h
      omega
    · omega
  · rw [if_pos hf] at h
    exact absurd h hf
theorem StatP.err_of {s : StatP} (h : ∀ t ∈ s.texts, textErr t = 0) (hb : s.body.length < 65536) : s.err = 0 := by
  have := s.body_length
  unfold StatP.err
  rw [firstErr_zero.2 h, if_neg (by omega), if_neg (by omega)]

/- A writer. -/
def WSt.qid (S : WSt) (q : QidP) : WSt := ((S.put (le q.kind 1)).put (le q.vers 4)).put (le q.path 8)
def WSt.stat (S : WSt) (s : StatP) : WSt :=
  (((((((((((S.opn.1.put (le s.typ 2)).put (le s.dev 4)).qid s.qid).put (le s.mode 4)).put (le s.atime 4)).put (le s.mtime 4)).put (le s.length 8)).text s.name.data.toList).text s.uid.data.toList).text s.gid.data.toList).text s.muid.data.toList).shut S.opn.2
theorem WSt.Wf.qid {S : WSt} (h : S.Wf) (q : QidP) : (S.qid q).Wf := ((h.put _).put _).put _
theorem WSt.Wf.stat {S : WSt} (h : S.Wf) (s : StatP) : (S.stat s).Wf := by
  unfold WSt.stat
  exact ((((((((((((h.opn.put _).put _).qid _).put _).put _).put _).put _).text _).text _).text _).text _).shut _)

def WSt.lay (S : WSt) (bs : List UInt8) : WSt := { S with bytes := S.bytes ++ bs }
theorem WSt.lay_put (S : WSt) (c bs : List UInt8) (h0 : S.err = 0) (hf : S.bytes.length + (c ++ bs).length ≤ S.limit) : (S.lay c).put bs = S.lay (c ++ bs) := by
  rw [WSt.put_fits _ (show (S.lay c).err = 0 from h0) (by simp only [WSt.lay, List.length_append] at hf ⊢; omega)]
  simp [WSt.lay]
theorem WSt.lay_text (S : WSt) (c : List UInt8) (t : ByteArray) (h0 : S.err = 0) (ht : textErr t = 0) (hf : S.bytes.length + (c ++ txt t.data.toList).length ≤ S.limit) : (S.lay c).text t.data.toList = S.lay (c ++ txt t.data.toList) := by
  obtain ⟨h1, h2⟩ := textErr_zero ht
  have e : (S.lay c).text t.data.toList = (S.lay c).put (le t.data.toList.length 2 ++ t.data.toList) := by
    unfold WSt.text
    rw [if_neg (by show ¬ S.err ≠ 0; omega), if_neg (by omega), if_neg (by simp [h2])]
  rw [e]
  exact WSt.lay_put S c _ h0 hf
theorem set_two (a b : List UInt8) (x y u v : UInt8) : ((a ++ [u, v] ++ b).set a.length x).set (a.length + 1) y = a ++ [x, y] ++ b := by
  simp [List.append_assoc]
theorem WSt.opn_fits {S : WSt} (h0 : S.err = 0) (hf : S.bytes.length + 2 ≤ S.limit) : S.opn = ({ S with bytes := S.bytes ++ [0, 0], opens := S.opens ++ [S.bytes.length] }, S.bytes.length) := by
  have e := WSt.put_fits (S := S) [0, 0] h0 (by simp; omega)
  unfold WSt.opn
  rw [e]
  rw [if_neg (by show ¬ S.err ≠ 0; omega)]
theorem WSt.stat_fits {S : WSt} {s : StatP} (h0 : S.err = 0) (hs : s.err = 0) (hf : S.bytes.length + s.size ≤ S.limit) : S.stat s = S.lay s.enc := by
  obtain ⟨ht, hb⟩ := StatP.err_zero hs
  have hl := s.body_length
  have t1 := ht s.name (by simp [StatP.texts])
  have t2 := ht s.uid (by simp [StatP.texts])
  have t3 := ht s.gid (by simp [StatP.texts])
  have t4 := ht s.muid (by simp [StatP.texts])
  have hl' := hl
  simp only [StatP.body, List.length_append, le_length, txt_length] at hl'
  have ho := WSt.opn_fits (S := S) h0 (by omega)
  generalize hS : ({ S with bytes := S.bytes ++ [0, 0], opens := S.opens ++ [S.bytes.length] } : WSt) = S1 at ho
  have e0 : S1.err = 0 := by rw [← hS]; exact h0
  have eb : S1.bytes.length = S.bytes.length + 2 := by rw [← hS]; simp
  have em : S1.limit = S.limit := by rw [← hS]
  unfold WSt.stat WSt.qid
  rw [ho]
  simp only
  have e1 : S1 = S1.lay [] := by simp [WSt.lay]
  have step : S1.lay [] = S1 := e1.symm
  have b1 := S1.lay_put [] (le s.typ 2) e0 (by simp only [List.length_append, List.length_nil, le_length]; omega)
  rw [step] at b1
  rw [b1]
  rw [S1.lay_put _ (le s.dev 4) e0 (by simp only [List.length_append, List.length_nil, le_length]; omega)]
  rw [S1.lay_put _ (le s.qid.kind 1) e0 (by simp only [List.length_append, List.length_nil, le_length]; omega)]
  rw [S1.lay_put _ (le s.qid.vers 4) e0 (by simp only [List.length_append, List.length_nil, le_length]; omega)]
  rw [S1.lay_put _ (le s.qid.path 8) e0 (by simp only [List.length_append, List.length_nil, le_length]; omega)]
  rw [S1.lay_put _ (le s.mode 4) e0 (by simp only [List.length_append, List.length_nil, le_length]; omega)]
  rw [S1.lay_put _ (le s.atime 4) e0 (by simp only [List.length_append, List.length_nil, le_length]; omega)]
  rw [S1.lay_put _ (le s.mtime 4) e0 (by simp only [List.length_append, List.length_nil, le_length]; omega)]
  rw [S1.lay_put _ (le s.length 8) e0 (by simp only [List.length_append, List.length_nil, le_length]; omega)]
  rw [S1.lay_text _ s.name e0 t1 (by simp only [List.length_append, List.length_nil, le_length, txt_length]; omega)]
  rw [S1.lay_text _ s.uid e0 t2 (by simp only [List.length_append, List.length_nil, le_length, txt_length]; omega)]
  rw [S1.lay_text _ s.gid e0 t3 (by simp only [List.length_append, List.length_nil, le_length, txt_length]; omega)]
  rw [S1.lay_text _ s.muid e0 t4 (by simp only [List.length_append, List.length_nil, le_length, txt_length]; omega)]
  have eB : [] ++ le s.typ 2 ++ le s.dev 4 ++ le s.qid.kind 1 ++ le s.qid.vers 4 ++ le s.qid.path 8 ++ le s.mode 4 ++ le s.atime 4 ++ le s.mtime 4 ++ le s.length 8 ++
    txt s.name.data.toList ++ txt s.uid.data.toList ++ txt s.gid.data.toList ++ txt s.muid.data.toList = s.body := by rw [List.nil_append]; rfl
  rw [eB, ← hS]
  unfold WSt.shut WSt.lay
  simp only [h0, ne_eq, not_true_eq_false, if_false, List.getLast?_append, List.getLast?_singleton, Option.some_or, List.length_append, List.length_cons, List.length_nil]
  rw [if_neg (by omega)]
  have eN : S.bytes.length + (0 + 1 + 1) + s.body.length - S.bytes.length - 2 = s.body.length := by omega
  simp only [eN, set_two, List.dropLast_concat]
  simp [StatP.enc, txt, le]

/- A reader. -/
def RSt.qid (S : RSt) : QidP × RSt :=
  let k := S.get 1
  let v := k.2.get 4
  let p := v.2.get 8
  (if p.2.err ≠ 0 then QidP.zero else ⟨k.1, v.1, p.1⟩, p.2)
def strOf (l : List UInt8) : ByteArray := ⟨l.toArray⟩
/-- The fields, out of a part's reader; where it stands then. -/
def RSt.fields (S : RSt) : StatP × RSt :=
  let a := S.get 2
  let b := a.2.get 4
  let c := b.2.qid
  let d := c.2.get 4
  let e := d.2.get 4
  let f := e.2.get 4
  let g := f.2.get 8
  let h := g.2.text
  let i := h.2.text
  let j := i.2.text
  let k := j.2.text
  (⟨a.1, b.1, c.1, d.1, e.1, f.1, g.1, strOf h.1, strOf i.1, strOf j.1, strOf k.1⟩, k.2.fin)
def RSt.stat (S : RSt) : StatP × RSt :=
  if S.part.1.fields.2.err ≠ 0 then (StatP.zero, S.part.2.wrong S.part.1.fields.2.err 0) else (S.part.1.fields.1, S.part.2)

def RSt.step (S : RSt) (k : Nat) : RSt := { S with place := S.place + k }
structure RSt.On (S : RSt) (r : List UInt8) : Prop where
  err : S.err = 0
  rest : S.rest = r
theorem RSt.wrong_err (S : RSt) {e : Int} (n : Nat) (h : e ≠ 0) : (S.wrong e n).err ≠ 0 := by
  unfold RSt.wrong
  by_cases h0 : S.err = 0
  · rw [if_pos ⟨h0, h⟩]
    exact h
  · rw [if_neg (by simp [h0])]
    exact h0
theorem le_val : ∀ (l : List UInt8), le (val l) l.length = l
  | [] => rfl
  | b :: l => by
    have h : UInt8.ofNat (b.toNat + 256 * val l) = b := by
      rw [UInt8.ofNat_add, UInt8.ofNat_mul]
      simp
    have hb := b.toNat_lt
    simp only [val, List.length_cons, le, h]
    rw [show (b.toNat + 256 * val l) / 256 = val l by omega, le_val l]
theorem RSt.get_of {S : RSt} {k : Nat} (h : (S.get k).2.err = 0) : S.On (le (S.get k).1 k ++ (S.get k).2.rest) ∧ (S.get k).1 < 256 ^ k ∧ (S.get k).2 = S.step k := by
  revert h
  unfold RSt.get
  by_cases h0 : S.err = 0
  · rw [if_neg (by omega)]
    by_cases hk : S.rest.length < k
    · rw [if_pos hk]
      intro h
      exact absurd h (S.wrong_err 0 (by omega))
    · rw [if_neg hk]
      intro _
      have hl : (S.rest.take k).length = k := by rw [List.length_take]; omega
      refine ⟨⟨h0, ?_⟩, ?_, rfl⟩
      · have e : le (val (S.rest.take k)) k = S.rest.take k := by
          have := le_val (S.rest.take k)
          rw [hl] at this
          exact this
        show S.rest = le (val (S.rest.take k)) k ++ S.bytes.drop (S.place + k)
        rw [e, ← List.drop_drop]
        exact (List.take_append_drop k S.rest).symm
      · have := val_lt (S.rest.take k)
        rw [hl] at this
        exact this
  · rw [if_pos h0]
    intro h
    exact absurd h h0
theorem RSt.counted_of {S : RSt} {n : Nat} (h : S.counted.1 = some n) : S.counted = (some n, S) ∧ S.On (txt (S.part2 n) ++ (S.step (2 + n)).rest) ∧ (S.part2 n).length = n ∧ n < 65536 := by
  revert h
  unfold RSt.counted
  by_cases h0 : S.err = 0
  · rw [if_neg (by omega)]
    by_cases h2 : S.rest.length < 2
    · rw [if_pos h2]
      intro h
      cases h
    · rw [if_neg h2]
      by_cases hv : S.rest.length < 2 + val (S.rest.take 2)
      · rw [if_pos hv]
        intro h
        cases h
      · rw [if_neg hv]
        intro h
        simp only [Option.some.injEq] at h
        have hl : (S.rest.take 2).length = 2 := by rw [List.length_take]; omega
        have hlt := val_lt (S.rest.take 2)
        rw [hl] at hlt
        have e : le n 2 = S.rest.take 2 := by
          have := le_val (S.rest.take 2)
          rw [hl, h] at this
          exact this
        rw [h] at hv hlt
        have hp : (S.part2 n).length = n := by
          unfold RSt.part2
          rw [List.length_take, List.length_drop]
          omega
        refine ⟨by rw [h], ⟨h0, ?_⟩, hp, by omega⟩
        rw [txt, hp, e]
        show S.rest = S.rest.take 2 ++ (S.rest.drop 2).take n ++ S.bytes.drop (S.place + (2 + n))
        rw [← List.drop_drop, ← List.drop_drop, List.append_assoc]
        show S.rest = S.rest.take 2 ++ ((S.rest.drop 2).take n ++ (S.rest.drop 2).drop n)
        rw [List.take_append_drop, List.take_append_drop]
  · rw [if_pos h0]
    intro h
    cases h
theorem RSt.counted_none {S : RSt} (h : S.counted.1 = none) : S.counted.2.err ≠ 0 := by
  revert h
  unfold RSt.counted
  by_cases h0 : S.err = 0
  · rw [if_neg (by omega)]
    split
    · intro _
      exact S.wrong_err 0 (by omega)
    · split
      · intro _
        exact S.wrong_err 0 (by omega)
      · intro h
        cases h
  · rw [if_pos h0]
    intro _
    exact h0
theorem RSt.text_of {S : RSt} (h : S.text.2.err = 0) : S.On (txt S.text.1 ++ S.text.2.rest) ∧ S.text.1.length < 65536 ∧ Tx.good S.text.1 = true ∧ S.text.2 = S.step (2 + S.text.1.length) := by
  cases hc : S.counted with
  | mk o S' =>
    cases o with
    | none =>
      have hn := RSt.counted_none (S := S) (by rw [hc])
      rw [hc] at hn
      have e : S.text = ([], S') := by unfold RSt.text; rw [hc]
      rw [e] at h
      exact absurd h hn
    | some n =>
      obtain ⟨h1, h2, h3, h4⟩ := RSt.counted_of (S := S) (n := n) (by rw [hc])
      by_cases hg : Tx.good (S.part2 n) = true
      · have e : S.text = (S.part2 n, S.step (2 + n)) := by
          unfold RSt.text
          rw [h1]
          simp only [hg, if_true]
          simp [RSt.step, Nat.add_assoc]
        rw [e]
        refine ⟨h2, ?_, hg, ?_⟩
        · show (S.part2 n).length < 65536
          omega
        · show S.step (2 + n) = S.step (2 + (S.part2 n).length)
          rw [h3]
      · have e : S.text = ([], S.wrong 12 (2 + Tx.badL (S.part2 n))) := by
          unfold RSt.text
          rw [h1]
          simp only [hg]
          rfl
        rw [e] at h
        exact absurd h (S.wrong_err _ (by omega))
theorem RSt.fin_of {S : RSt} (h : S.fin.err = 0) : S.On [] ∧ S.fin = S := by
  revert h
  unfold RSt.fin
  by_cases hp : S.place < S.bytes.length
  · rw [if_pos hp]
    intro h
    exact absurd h (S.wrong_err _ (by omega))
  · rw [if_neg hp]
    intro h
    exact ⟨⟨h, by unfold RSt.rest; exact List.drop_eq_nil_of_le (by omega)⟩, rfl⟩
theorem RSt.part_of {S : RSt} (h : S.part.1.err = 0) : S.On (txt S.part.1.bytes ++ S.part.2.rest) ∧ S.part.1.bytes.length < 65536 ∧ S.part.1.On S.part.1.bytes ∧ S.part.2 = S.step (2 + S.part.1.bytes.length) := by
  cases hc : S.counted with
  | mk o S' =>
    cases o with
    | none =>
      have hn := RSt.counted_none (S := S) (by rw [hc])
      rw [hc] at hn
      have e : S.part.1 = ⟨[], 0, S'.spot, S'.err, S'.spot⟩ := by unfold RSt.part; rw [hc]
      rw [e] at h
      exact absurd h hn
    | some n =>
      obtain ⟨h1, h2, h3, h4⟩ := RSt.counted_of (S := S) (n := n) (by rw [hc])
      have e : S.part = (⟨S.part2 n, 0, S.base + (S.place + 2), 0, 0⟩, S.step (2 + n)) := by
        unfold RSt.part
        rw [h1]
        simp [RSt.step, Nat.add_assoc]
      rw [e]
      refine ⟨h2, ?_, ⟨rfl, rfl⟩, ?_⟩
      · show (S.part2 n).length < 65536
        omega
      · show S.step (2 + n) = S.step (2 + (S.part2 n).length)
        rw [h3]

theorem RSt.step_step (S : RSt) (a b : Nat) : (S.step a).step b = S.step (a + b) := by simp [RSt.step, Nat.add_assoc]
theorem RSt.qid_of {S : RSt} (h : S.qid.2.err = 0) : S.On (le S.qid.1.kind 1 ++ (le S.qid.1.vers 4 ++ (le S.qid.1.path 8 ++ S.qid.2.rest))) ∧ S.qid.1.Fits ∧ S.qid.2 = S.step 13 := by
  obtain ⟨a3, b3, c3⟩ := RSt.get_of h
  obtain ⟨a2, b2, c2⟩ := RSt.get_of a3.err
  obtain ⟨a1, b1, c1⟩ := RSt.get_of a2.err
  have e : S.qid = (⟨(S.get 1).1, ((S.get 1).2.get 4).1, (((S.get 1).2.get 4).2.get 8).1⟩, (((S.get 1).2.get 4).2.get 8).2) := by
    have h' : ¬ (((S.get 1).2.get 4).2.get 8).2.err ≠ 0 := by
      have : (((S.get 1).2.get 4).2.get 8).2.err = 0 := h
      omega
    unfold RSt.qid
    simp only [if_neg h']
  rw [e]
  refine ⟨⟨a1.err, ?_⟩, ⟨b1, b2, b3⟩, ?_⟩
  · rw [a1.rest, a2.rest, a3.rest]
  · show (((S.get 1).2.get 4).2.get 8).2 = S.step 13
    rw [c3, c2, c1, RSt.step_step, RSt.step_step]
theorem strOf_toList (l : List UInt8) : (strOf l).data.toList = l := by simp [strOf]
theorem RSt.fields_of {S : RSt} (h : S.fields.2.err = 0) (hb : S.rest.length < 65536) : S.On S.fields.1.body ∧ S.fields.1.Fits ∧ S.fields.1.err = 0 := by
  obtain ⟨a12, c12⟩ := RSt.fin_of h
  obtain ⟨a11, l11, g11, -⟩ := RSt.text_of a12.err
  obtain ⟨a10, l10, g10, -⟩ := RSt.text_of a11.err
  obtain ⟨a9, l9, g9, -⟩ := RSt.text_of a10.err
  obtain ⟨a8, l8, g8, -⟩ := RSt.text_of a9.err
  obtain ⟨a7, b7, -⟩ := RSt.get_of a8.err
  obtain ⟨a6, b6, -⟩ := RSt.get_of a7.err
  obtain ⟨a5, b5, -⟩ := RSt.get_of a6.err
  obtain ⟨a4, b4, -⟩ := RSt.get_of a5.err
  obtain ⟨a3, b3, -⟩ := RSt.qid_of a4.err
  obtain ⟨a2, b2, -⟩ := RSt.get_of a3.err
  obtain ⟨a1, b1, -⟩ := RSt.get_of a2.err
  have hbody : S.rest = S.fields.1.body := by
    rw [a1.rest, a2.rest, a3.rest, a4.rest, a5.rest, a6.rest, a7.rest, a8.rest, a9.rest, a10.rest, a11.rest, a12.rest]
    simp only [RSt.fields, StatP.body, strOf_toList, List.append_assoc, List.append_nil]
  refine ⟨⟨a1.err, hbody⟩, ⟨b1, b2, b3, b4, b5, b6, b7⟩, StatP.err_of ?_ (by rw [← hbody]; exact hb)⟩
  intro t ht
  simp only [StatP.texts, List.mem_cons, List.not_mem_nil, or_false] at ht
  rcases ht with rfl | rfl | rfl | rfl
  · exact textErr_of (t := strOf _) (by rw [strOf_toList]; exact l8) (by rw [strOf_toList]; exact g8)
  · exact textErr_of (t := strOf _) (by rw [strOf_toList]; exact l9) (by rw [strOf_toList]; exact g9)
  · exact textErr_of (t := strOf _) (by rw [strOf_toList]; exact l10) (by rw [strOf_toList]; exact g10)
  · exact textErr_of (t := strOf _) (by rw [strOf_toList]; exact l11) (by rw [strOf_toList]; exact g11)
theorem RSt.fields_err {S : RSt} (h : S.fields.2.err = 0) : S.err = 0 := by
  obtain ⟨a12, c12⟩ := RSt.fin_of h
  exact (RSt.get_of (RSt.get_of (RSt.qid_of (RSt.get_of (RSt.get_of (RSt.get_of (RSt.get_of (RSt.text_of (RSt.text_of (RSt.text_of (RSt.text_of a12.err).1.err).1.err).1.err).1.err).1.err).1.err).1.err).1.err).1.err).1.err).1.err
theorem RSt.stat_of {S : RSt} (h : S.stat.2.err = 0) : S.On (S.stat.1.enc ++ S.stat.2.rest) ∧ S.stat.1.Fits ∧ S.stat.1.err = 0 ∧ S.stat.2 = S.step S.stat.1.size := by
  by_cases hf : S.part.1.fields.2.err = 0
  · have e : S.stat = (S.part.1.fields.1, S.part.2) := by
      unfold RSt.stat
      rw [if_neg (by omega)]
    rw [e]
    obtain ⟨a, b, c, d⟩ := RSt.part_of (RSt.fields_err hf)
    obtain ⟨f1, f2, f3⟩ := RSt.fields_of hf (by rw [c.rest]; exact b)
    have eb : S.part.1.bytes = S.part.1.fields.1.body := by rw [← f1.rest, c.rest]
    have hl := S.part.1.fields.1.body_length
    rw [eb] at a d
    generalize S.part.1.fields.1 = s at *
    rw [show 2 + s.body.length = s.size by omega] at d
    exact ⟨a, f2, f3, d⟩
  · have e : S.stat = (StatP.zero, S.part.2.wrong S.part.1.fields.2.err 0) := by
      unfold RSt.stat
      rw [if_pos hf]
    rw [e] at h
    exact absurd h (RSt.wrong_err _ _ hf)

/- Just one record. -/
def RSt.of (l : List UInt8) : RSt := ⟨l, 0, 0, 0, 0⟩
def decode (b : List UInt8) : StatP × Nat := if (RSt.of b).stat.2.fin.err ≠ 0 then (StatP.zero, 20) else ((RSt.of b).stat.1, 0)
end Go.Proofs.YtnpokdbpmnkbjaaGreatDoor
namespace Go.Proofs.YtnpokdbpmnkbjaaGreatDoor

def keepS : StatP := ⟨65535, 4294967295, ⟨255, 4294967295, 18446744073709551615⟩, 4294967295, 4294967295, 4294967295, 18446744073709551615, ⟨#[]⟩, ⟨#[]⟩, ⟨#[]⟩, ⟨#[]⟩⟩
def askN (a k h : Nat) : Bool := decide (a ≠ k ∧ a ≠ h)
def askT (a k h : ByteArray) : Bool := decide (a ≠ k ∧ a ≠ h)
/-- Which fields are touched, one by one. -/
def touch (a h : StatP) : List Bool :=
  [askN a.typ keepS.typ h.typ, askN a.dev keepS.dev h.dev, askN a.qid.kind keepS.qid.kind h.qid.kind, askN a.qid.vers keepS.qid.vers h.qid.vers, askN a.qid.path keepS.qid.path h.qid.path, askN a.mode keepS.mode h.mode,
    askN a.atime keepS.atime h.atime, askN a.mtime keepS.mtime h.mtime, askN a.length keepS.length h.length, askT a.name keepS.name h.name, askT a.uid keepS.uid h.uid, askT a.gid keepS.gid h.gid, askT a.muid keepS.muid h.muid]
/-- The set as a number. -/
def maskL : List Bool → Nat
  | [] => 0
  | b :: l => (if b then 1 else 0) + 2 * maskL l
def touched (a h : StatP) : Nat := maskL (touch a h)
def sel {α : Type} (b : Bool) (x y : α) : α := if b then x else y
def overS (a h : StatP) : StatP :=
  ⟨sel (askN a.typ keepS.typ h.typ) a.typ h.typ, sel (askN a.dev keepS.dev h.dev) a.dev h.dev, ⟨sel (askN a.qid.kind keepS.qid.kind h.qid.kind) a.qid.kind h.qid.kind, sel (askN a.qid.vers keepS.qid.vers h.qid.vers) a.qid.vers h.qid.vers, sel (askN a.qid.path keepS.qid.path h.qid.path) a.qid.path h.qid.path⟩,
    sel (askN a.mode keepS.mode h.mode) a.mode h.mode, sel (askN a.atime keepS.atime h.atime) a.atime h.atime, sel (askN a.mtime keepS.mtime h.mtime) a.mtime h.mtime, sel (askN a.length keepS.length h.length) a.length h.length,
    sel (askT a.name keepS.name h.name) a.name h.name, sel (askT a.uid keepS.uid h.uid) a.uid h.uid, sel (askT a.gid keepS.gid h.gid) a.gid h.gid, sel (askT a.muid keepS.muid h.muid) a.muid h.muid⟩
theorem maskL_append (a b : List Bool) : maskL (a ++ b) = maskL a + 2 ^ a.length * maskL b := by
  induction a with
  | nil => simp [maskL]
  | cons x a ih =>
    simp only [List.cons_append, maskL, ih, List.length_cons, Nat.pow_succ, Nat.mul_add]
    rw [Nat.mul_comm (2 ^ a.length) 2, Nat.mul_assoc]
    omega
theorem maskL_lt (l : List Bool) : maskL l < 2 ^ l.length := by
  induction l with
  | nil => simp [maskL]
  | cons x l ih =>
    simp only [maskL, List.length_cons, Nat.pow_succ]
    split <;> omega
theorem maskL_bit (l : List Bool) (i : Nat) : maskL l / 2 ^ i % 2 = if l[i]? = some true then 1 else 0 := by
  induction l generalizing i with
  | nil => simp [maskL]
  | cons x l ih =>
    cases i with
    | zero =>
      simp only [maskL, Nat.pow_zero, Nat.div_one, List.getElem?_cons_zero, Option.some.injEq]
      cases x <;> simp <;> omega
    | succ i =>
      simp only [maskL, List.getElem?_cons_succ]
      rw [← ih i, Nat.pow_succ, Nat.mul_comm (2 ^ i) 2, ← Nat.div_div_eq_div_mul]
      congr 2
      cases x <;> simp <;> omega
theorem maskL_snoc (l : List Bool) (b : Bool) : maskL (l ++ [b]) = maskL l + if b then 2 ^ l.length else 0 := by
  rw [maskL_append]
  cases b <;> simp [maskL]
theorem askN_self (k h : Nat) : askN k k h = false := by simp [askN]
theorem askN_same (a k : Nat) : askN a k a = false := by simp [askN]
theorem touch_length (a h : StatP) : (touch a h).length = 13 := rfl
theorem touched_lt (a h : StatP) : touched a h < 8192 := by
  have := maskL_lt (touch a h)
  rw [touch_length] at this
  unfold touched
  omega
end Go.Proofs.YtnpokdbpmnkbjaaGreatDoor
