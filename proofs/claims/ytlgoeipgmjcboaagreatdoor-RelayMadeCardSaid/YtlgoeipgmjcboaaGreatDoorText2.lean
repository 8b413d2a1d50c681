/- Texts as lists of bytes: how many bytes the character in front has, where the first piece is that makes a list no text, where a list is cut; and what holds of these. No program. | Where a list of bytes is cut, and how a string is read character by character: the model's own reading against the characters of the plain text. No program. -/
import Derived.Lib.DecodeN
import Derived.Lib.Strings
namespace Go.Proofs.YtlgoeipgmjcboaaGreatDoor.Tx
open Go Go.Lib

/-- The byte at a place; 0 behind the end. -/
def bt (l : List UInt8) (i : Nat) : Nat := match l[i]? with | some b => b.toNat | none => 0

theorem bt_lt (l : List UInt8) (i : Nat) : bt l i < 256 := by
  unfold bt
  split
  · exact UInt8.toNat_lt _
  · omega
theorem bt_some {l : List UInt8} {i : Nat} {b : UInt8} (h : l[i]? = some b) : bt l i = b.toNat := by simp [bt, h]
theorem bt_at {l : List UInt8} {i : Nat} (h : i < l.length) : bt l i = l[i].toNat := bt_some (List.getElem?_eq_getElem h)
theorem bt_drop (l : List UInt8) (p i : Nat) : bt (l.drop p) i = bt l (p + i) := by simp [bt]

/-- How many bytes the character has that begins b0 b1 b2 b3, of n bytes that are left; 0: none begins there. -/
def chrN (n b0 b1 b2 b3 : Nat) : Nat :=
  if b0 < 128 then 1
  else if (194 ≤ b0 ∧ b0 ≤ 223) ∧ 1 < n ∧ 128 ≤ b1 ∧ b1 ≤ 191 then 2
  else if (224 ≤ b0 ∧ b0 ≤ 239) ∧ (1 < n ∧ (if b0 = 224 then 160 else 128) ≤ b1 ∧ b1 ≤ (if b0 = 237 then 159 else 191)) ∧ 2 < n ∧ 128 ≤ b2 ∧ b2 ≤ 191 then 3
  else if (240 ≤ b0 ∧ b0 ≤ 244) ∧ (1 < n ∧ (if b0 = 240 then 144 else 128) ≤ b1 ∧ b1 ≤ (if b0 = 244 then 143 else 191)) ∧ (2 < n ∧ 128 ≤ b2 ∧ b2 ≤ 191) ∧ 3 < n ∧ 128 ≤ b3 ∧ b3 ≤ 191 then 4
  else 0

set_option maxHeartbeats 1000000 in
theorem decodeN_chrN (n b0 b1 b2 b3 : Nat) (_h0 : b0 < 256) (_h1 : b1 < 256) (_h2 : b2 < 256) (_h3 : b3 < 256) :
    (chrN n b0 b1 b2 b3 = 0 → decodeN n b0 b1 b2 b3 = (65533, 1)) ∧
    (chrN n b0 b1 b2 b3 ≠ 0 → (decodeN n b0 b1 b2 b3).2 = chrN n b0 b1 b2 b3 ∧ ((decodeN n b0 b1 b2 b3).1 = 0 ↔ b0 = 0) ∧ ((decodeN n b0 b1 b2 b3).1 = 65533 → chrN n b0 b1 b2 b3 = 3)) := by
  unfold chrN decodeN
  repeat' split
  all_goals first | (exfalso; omega) | (refine ⟨fun h => ?_, fun h => ⟨?_, ?_, ?_⟩⟩ <;> first | rfl | (exfalso; omega) | (simp only; omega) | (simp only; intro _; omega) | (intro _; rfl))


theorem chrN_le (n b0 b1 b2 b3 : Nat) (hn : 0 < n) : chrN n b0 b1 b2 b3 ≤ n ∧ chrN n b0 b1 b2 b3 ≤ 4 := by
  unfold chrN
  repeat' split
  all_goals omega

/-- How many bytes the character in front has; 0: none begins there. -/
def chr (l : List UInt8) : Nat := if l = [] then 0 else chrN l.length (bt l 0) (bt l 1) (bt l 2) (bt l 3)

theorem chr_of_ne {l : List UInt8} (h : l ≠ []) : chr l = chrN l.length (bt l 0) (bt l 1) (bt l 2) (bt l 3) := if_neg h
theorem chr_le (l : List UInt8) : chr l ≤ l.length ∧ chr l ≤ 4 := by
  unfold chr
  split
  · simp
  · rename_i h
    exact chrN_le _ _ _ _ _ (List.length_pos_iff.2 h)
theorem ne_of_chr {l : List UInt8} (h : chr l ≠ 0) : l ≠ [] := by
  rintro rfl
  exact h rfl


/-- The place of the first piece that is no character, or is 00; how many bytes there are, if there is none. -/
def badF : Nat → List UInt8 → Nat
  | 0, _ => 0
  | f + 1, l => if l = [] then 0 else if chr l = 0 ∨ bt l 0 = 0 then 0 else chr l + badF f (l.drop (chr l))
def badL (l : List UInt8) : Nat := badF l.length l

theorem badF_more : ∀ (f g : Nat) (l : List UInt8), l.length ≤ f → l.length ≤ g → badF f l = badF g l
  | 0, 0, _, _, _ => rfl
  | 0, g + 1, l, h, _ => by
    have : l = [] := List.eq_nil_of_length_eq_zero (by omega)
    simp [badF, this]
  | f + 1, 0, l, _, h => by
    have : l = [] := List.eq_nil_of_length_eq_zero (by omega)
    simp [badF, this]
  | f + 1, g + 1, l, h1, h2 => by
    simp only [badF]
    split
    · rfl
    · split
      · rfl
      · rename_i hc
        have hc' : chr l ≠ 0 := fun e => hc (Or.inl e)
        have := (chr_le l).1
        rw [badF_more f g _ (by simp; omega) (by simp; omega)]
theorem badL_nil : badL [] = 0 := rfl
theorem badL_bad {l : List UInt8} (h : chr l = 0 ∨ bt l 0 = 0) : badL l = 0 := by
  unfold badL
  cases hl : l.length with
  | zero => rfl
  | succ n =>
    simp only [badF]
    split
    · rfl
    · simp
theorem badL_good {l : List UInt8} (h : chr l ≠ 0) (h0 : bt l 0 ≠ 0) : badL l = chr l + badL (l.drop (chr l)) := by
  have hl := ne_of_chr h
  have hc := (chr_le l).1
  unfold badL
  cases hn : l.length with
  | zero => exact absurd (List.eq_nil_of_length_eq_zero hn) hl
  | succ n =>
    simp only [badF]
    rw [if_neg hl, if_neg (by omega), badF_more n (l.drop (chr l)).length _ (by simp; omega) (Nat.le_refl _)]

/-- By the pieces: to hold of every list, it holds of the empty one, where a piece is bad, and in front of a good one. -/
theorem byPieces {C : List UInt8 → Prop} (hnil : C []) (hbad : ∀ l, l ≠ [] → (chr l = 0 ∨ bt l 0 = 0) → C l) (hgood : ∀ l, chr l ≠ 0 → bt l 0 ≠ 0 → C (l.drop (chr l)) → C l) : ∀ l, C l := by
  have key : ∀ (n : Nat) (l : List UInt8), l.length ≤ n → C l := by
    intro n
    induction n with
    | zero =>
      intro l h
      rw [List.eq_nil_of_length_eq_zero (by omega : l.length = 0)]
      exact hnil
    | succ n ih =>
      intro l h
      by_cases hl : l = []
      · rw [hl]; exact hnil
      · by_cases hc : chr l = 0 ∨ bt l 0 = 0
        · exact hbad l hl hc
        · have h1 : chr l ≠ 0 := fun e => hc (Or.inl e)
          exact hgood l h1 (fun e => hc (Or.inr e)) (ih _ (by simp; omega))
  exact fun l => key l.length l (Nat.le_refl _)

theorem badL_le : ∀ l, badL l ≤ l.length :=
  byPieces (by simp [badL_nil]) (fun l _ h => by simp [badL_bad h]) fun l h h0 ih => by
    rw [badL_good h h0]
    have := (chr_le l).1
    simp only [List.length_drop] at ih
    omega

/-- Is it a text? -/
def good (l : List UInt8) : Bool := badL l == l.length
theorem good_iff (l : List UInt8) : good l = true ↔ badL l = l.length := by simp [good]




end Go.Proofs.YtlgoeipgmjcboaaGreatDoor.Tx
namespace Go.Proofs.YtlgoeipgmjcboaaGreatDoor.Tx
open Go Go.Lib






/-- How the model reads a string. -/
theorem get_bt (s : ByteArray) (i : Nat) : (s.get! i).toNat = bt s.data.toList i := by
  by_cases h : i < s.data.size
  · have : s.get! i = s.data[i] := by
      show s.data[i]! = _
      rw [getElem!_pos s.data i h]
    rw [this, bt_at (by simpa using h)]
    simp
  · have : s.get! i = default := by
      show s.data[i]! = _
      rw [getElem!_neg s.data i h]
    rw [this]
    have hn : s.data.toList[i]? = none := List.getElem?_eq_none (by simpa using h)
    simp only [bt, hn]
    rfl
theorem decode_text (s : ByteArray) (p : Nat) (hp : p < s.size) :
    (chr (s.data.toList.drop p) = 0 → Utf8.decode s p = (65533, 1)) ∧
    (chr (s.data.toList.drop p) ≠ 0 → (Utf8.decode s p).2 = chr (s.data.toList.drop p) ∧ ((Utf8.decode s p).1 = 0 ↔ bt (s.data.toList.drop p) 0 = 0) ∧ ((Utf8.decode s p).1 = 65533 → chr (s.data.toList.drop p) = 3)) := by
  have hl : (s.data.toList.drop p).length = s.size - p := by simp
  have hne : s.data.toList.drop p ≠ [] := by
    intro e
    rw [e] at hl
    simp at hl
    omega
  rw [decode_at, chr_of_ne hne, hl, get_bt, get_bt, get_bt, get_bt, bt_drop, bt_drop, bt_drop, bt_drop, Nat.add_zero]
  exact decodeN_chrN _ _ _ _ _ (bt_lt _ _) (bt_lt _ _) (bt_lt _ _) (bt_lt _ _)
theorem tail_list (s : ByteArray) (p : Nat) : (s.extract p s.size).data.toList = s.data.toList.drop p := by
  rw [Lib.extract_data, List.take_of_length_le (by simp)]
theorem decode_tail (s : ByteArray) (p : Nat) : Utf8.decode (s.extract p s.size) 0 = Utf8.decode s p := by
  have hz : (s.extract p s.size).size = s.size - p := by simp
  rw [decode_at, decode_at, get_bt, get_bt, get_bt, get_bt, get_bt, get_bt, get_bt, get_bt, tail_list, hz, bt_drop, bt_drop, bt_drop, bt_drop]
  simp

end Go.Proofs.YtlgoeipgmjcboaaGreatDoor.Tx
