/- Texts as lists of bytes: how many bytes the character in front has, where the first piece is that makes a list no text, where a list is cut; and what holds of these. No program. -/
import Derived.Lib.DecodeN
namespace Go.Proofs.YtedddekkbgaolaaDoor.Tx
open Go Go.Lib

/-- The byte at a place; 0 behind the end. -/
def bt (l : List UInt8) (i : Nat) : Nat := match l[i]? with | some b => b.toNat | none => 0

theorem bt_lt (l : List UInt8) (i : Nat) : bt l i < 256 := by
  unfold bt
  split
  · exact UInt8.toNat_lt _
  · omega
theorem bt_some {l : List UInt8} {i : Nat} {b : UInt8} (h : l[i]? = some b) : bt l i = b.toNat := by simp [bt, h]
theorem bt_at {l : List UInt8} {i : Nat} (h : i < l.length) : bt l i = l[i].toNat := bt_some (List.getElem?_eq_getElem h)
theorem bt_drop (l : List UInt8) (p i : Nat) : bt (l.drop p) i = bt l (p + i) := by simp [bt]
theorem bt_append (a b : List UInt8) (i : Nat) (h : i < a.length) : bt (a ++ b) i = bt a i := by simp [bt, List.getElem?_append_left h]
theorem bt_take (l : List UInt8) (k i : Nat) (h : i < k) : bt (l.take k) i = bt l i := by simp [bt, h]
theorem bt_cons (c : UInt8) (l : List UInt8) : bt (c :: l) 0 = c.toNat := by simp [bt]
theorem bt_cons_succ (c : UInt8) (l : List UInt8) (i : Nat) : bt (c :: l) (i + 1) = bt l i := by simp [bt]

/-- How many bytes the character has that begins b0 b1 b2 b3, of n bytes that are left; 0: none begins there. -/
def chrN (n b0 b1 b2 b3 : Nat) : Nat :=
  if b0 < 128 then 1
  else if (194 ≤ b0 ∧ b0 ≤ 223) ∧ 1 < n ∧ 128 ≤ b1 ∧ b1 ≤ 191 then 2
  else if (224 ≤ b0 ∧ b0 ≤ 239) ∧ (1 < n ∧ (if b0 = 224 then 160 else 128) ≤ b1 ∧ b1 ≤ (if b0 = 237 then 159 else 191)) ∧ 2 < n ∧ 128 ≤ b2 ∧ b2 ≤ 191 then 3
  else if (240 ≤ b0 ∧ b0 ≤ 244) ∧ (1 < n ∧ (if b0 = 240 then 144 else 128) ≤ b1 ∧ b1 ≤ (if b0 = 244 then 143 else 191)) ∧ (2 < n ∧ 128 ≤ b2 ∧ b2 ≤ 191) ∧ 3 < n ∧ 128 ≤ b3 ∧ b3 ≤ 191 then 4
  else 0

set_option maxHeartbeats 1000000 in
theorem decodeN_chrN (n b0 b1 b2 b3 : Nat) (_h0 : b0 < 256) (_h1 : b1 < 256) (_h2 : b2 < 256) (_h3 : b3 < 256) :
    (chrN n b0 b1 b2 b3 = 0 → decodeN n b0 b1 b2 b3 = (65533, 1)) ∧
    (chrN n b0 b1 b2 b3 ≠ 0 → (decodeN n b0 b1 b2 b3).2 = chrN n b0 b1 b2 b3 ∧ ((decodeN n b0 b1 b2 b3).1 = 0 ↔ b0 = 0) ∧ ((decodeN n b0 b1 b2 b3).1 = 65533 → chrN n b0 b1 b2 b3 = 3)) := by
  unfold chrN decodeN
  repeat' split
  all_goals first | (exfalso; omega) | (refine ⟨fun h => ?_, fun h => ⟨?_, ?_, ?_⟩⟩ <;> first | rfl | (exfalso; omega) | (simp only; omega) | (simp only; intro _; omega) | (intro _; rfl))

theorem chrN_congr (n b0 b1 b2 b3 n' b1' b2' b3' : Nat) (h : chrN n b0 b1 b2 b3 ≠ 0) (hn : chrN n b0 b1 b2 b3 ≤ n') (h1 : 1 < chrN n b0 b1 b2 b3 → b1' = b1) (h2 : 2 < chrN n b0 b1 b2 b3 → b2' = b2) (h3 : 3 < chrN n b0 b1 b2 b3 → b3' = b3) :
    chrN n' b0 b1' b2' b3' = chrN n b0 b1 b2 b3 := by
  by_cases c1 : b0 < 128
  · simp [chrN, c1]
  by_cases c2 : (194 ≤ b0 ∧ b0 ≤ 223) ∧ 1 < n ∧ 128 ≤ b1 ∧ b1 ≤ 191
  · have e : chrN n b0 b1 b2 b3 = 2 := by simp only [chrN, c1, if_false]; rw [if_pos c2]
    rw [e] at hn h1 ⊢
    have := h1 (by omega)
    simp only [chrN, c1, if_false]
    rw [if_pos (by omega)]
  by_cases c3 : (224 ≤ b0 ∧ b0 ≤ 239) ∧ (1 < n ∧ (if b0 = 224 then 160 else 128) ≤ b1 ∧ b1 ≤ (if b0 = 237 then 159 else 191)) ∧ 2 < n ∧ 128 ≤ b2 ∧ b2 ≤ 191
  · have e : chrN n b0 b1 b2 b3 = 3 := by simp only [chrN, c1, if_false]; rw [if_neg c2, if_pos c3]
    rw [e] at hn h1 h2 ⊢
    have e1 := h1 (by omega)
    have e2 := h2 (by omega)
    simp only [chrN, c1, if_false]
    rw [if_neg (by omega), if_pos (by rw [e1, e2]; exact ⟨c3.1, ⟨by omega, c3.2.1.2⟩, by omega, c3.2.2.2⟩)]
  by_cases c4 : (240 ≤ b0 ∧ b0 ≤ 244) ∧ (1 < n ∧ (if b0 = 240 then 144 else 128) ≤ b1 ∧ b1 ≤ (if b0 = 244 then 143 else 191)) ∧ (2 < n ∧ 128 ≤ b2 ∧ b2 ≤ 191) ∧ 3 < n ∧ 128 ≤ b3 ∧ b3 ≤ 191
  · have e : chrN n b0 b1 b2 b3 = 4 := by simp only [chrN, c1, if_false]; rw [if_neg c2, if_neg c3, if_pos c4]
    rw [e] at hn h1 h2 h3 ⊢
    have e1 := h1 (by omega)
    have e2 := h2 (by omega)
    have e3 := h3 (by omega)
    simp only [chrN, c1, if_false]
    rw [if_neg (by omega), if_neg (by omega), if_pos (by rw [e1, e2, e3]; exact ⟨c4.1, ⟨by omega, c4.2.1.2⟩, ⟨by omega, c4.2.2.1.2⟩, by omega, c4.2.2.2.2⟩)]
  · exfalso
    apply h
    simp only [chrN, c1, if_false]
    rw [if_neg c2, if_neg c3, if_neg c4]

theorem chrN_le (n b0 b1 b2 b3 : Nat) (hn : 0 < n) : chrN n b0 b1 b2 b3 ≤ n ∧ chrN n b0 b1 b2 b3 ≤ 4 := by
  unfold chrN
  repeat' split
  all_goals omega

/-- How many bytes the character in front has; 0: none begins there. -/
def chr (l : List UInt8) : Nat := if l = [] then 0 else chrN l.length (bt l 0) (bt l 1) (bt l 2) (bt l 3)

theorem chr_nil : chr [] = 0 := rfl
theorem chr_of_ne {l : List UInt8} (h : l ≠ []) : chr l = chrN l.length (bt l 0) (bt l 1) (bt l 2) (bt l 3) := if_neg h
theorem chr_le (l : List UInt8) : chr l ≤ l.length ∧ chr l ≤ 4 := by
  unfold chr
  split
  · simp
  · rename_i h
    exact chrN_le _ _ _ _ _ (List.length_pos_iff.2 h)
theorem ne_of_chr {l : List UInt8} (h : chr l ≠ 0) : l ≠ [] := by
  rintro rfl
  exact h rfl

/-- Whatever begins with the same character. -/
theorem chr_congr {l l' : List UInt8} (h : chr l ≠ 0) (hn : chr l ≤ l'.length) (he : ∀ i, i < chr l → bt l' i = bt l i) : chr l' = chr l := by
  have hl := ne_of_chr h
  have hl' : l' ≠ [] := by
    rintro rfl
    simp at hn
    omega
  rw [chr_of_ne hl] at h hn he ⊢
  rw [chr_of_ne hl', he 0 (by omega)]
  exact chrN_congr _ _ _ _ _ _ _ _ _ h hn (fun h => he 1 h) (fun h => he 2 h) (fun h => he 3 h)
theorem chr_append {a : List UInt8} (b : List UInt8) (h : chr a ≠ 0) : chr (a ++ b) = chr a :=
  chr_congr h (by have := (chr_le a).1; simp; omega) fun i hi => bt_append a b i (by have := (chr_le a).1; omega)
theorem chr_take {l : List UInt8} {k : Nat} (h : chr l ≠ 0) (hk : chr l ≤ k) : chr (l.take k) = chr l :=
  chr_congr h (by have := (chr_le l).1; simp; omega) fun i hi => bt_take l k i (by omega)

/-- The place of the first piece that is no character, or is 00; how many bytes there are, if there is none. -/
def badF : Nat → List UInt8 → Nat
  | 0, _ => 0
  | f + 1, l => if l = [] then 0 else if chr l = 0 ∨ bt l 0 = 0 then 0 else chr l + badF f (l.drop (chr l))
def badL (l : List UInt8) : Nat := badF l.length l

theorem badF_more : ∀ (f g : Nat) (l : List UInt8), l.length ≤ f → l.length ≤ g → badF f l = badF g l
  | 0, 0, _, _, _ => rfl
  | 0, g + 1, l, h, _ => by
    have : l = [] := List.eq_nil_of_length_eq_zero (by omega)
    simp [badF, this]
  | f + 1, 0, l, _, h => by
    have : l = [] := List.eq_nil_of_length_eq_zero (by omega)
    simp [badF, this]
  | f + 1, g + 1, l, h1, h2 => by
    simp only [badF]
    split
    · rfl
    · split
      · rfl
      · rename_i hc
        have hc' : chr l ≠ 0 := fun e => hc (Or.inl e)
        have := (chr_le l).1
        rw [badF_more f g _ (by simp; omega) (by simp; omega)]
theorem badL_nil : badL [] = 0 := rfl
theorem badL_bad {l : List UInt8} (h : chr l = 0 ∨ bt l 0 = 0) : badL l = 0 := by
  unfold badL
  cases hl : l.length with
  | zero => rfl
  | succ n =>
    simp only [badF]
    split
    · rfl
    · simp
theorem badL_good {l : List UInt8} (h : chr l ≠ 0) (h0 : bt l 0 ≠ 0) : badL l = chr l + badL (l.drop (chr l)) := by
  have hl := ne_of_chr h
  have hc := (chr_le l).1
  unfold badL
  cases hn : l.length with
  | zero => exact absurd (List.eq_nil_of_length_eq_zero hn) hl
  | succ n =>
    simp only [badF]
    rw [if_neg hl, if_neg (by omega), badF_more n (l.drop (chr l)).length _ (by simp; omega) (Nat.le_refl _)]

/-- By the pieces: to hold of every list, it holds of the empty one, where a piece is bad, and in front of a good one. -/
theorem byPieces {C : List UInt8 → Prop} (hnil : C []) (hbad : ∀ l, l ≠ [] → (chr l = 0 ∨ bt l 0 = 0) → C l) (hgood : ∀ l, chr l ≠ 0 → bt l 0 ≠ 0 → C (l.drop (chr l)) → C l) : ∀ l, C l := by
  have key : ∀ (n : Nat) (l : List UInt8), l.length ≤ n → C l := by
    intro n
    induction n with
    | zero =>
      intro l h
      rw [List.eq_nil_of_length_eq_zero (by omega : l.length = 0)]
      exact hnil
    | succ n ih =>
      intro l h
      by_cases hl : l = []
      · rw [hl]; exact hnil
      · by_cases hc : chr l = 0 ∨ bt l 0 = 0
        · exact hbad l hl hc
        · have h1 : chr l ≠ 0 := fun e => hc (Or.inl e)
          exact hgood l h1 (fun e => hc (Or.inr e)) (ih _ (by simp; omega))
  exact fun l => key l.length l (Nat.le_refl _)

theorem badL_le : ∀ l, badL l ≤ l.length :=
  byPieces (by simp [badL_nil]) (fun l _ h => by simp [badL_bad h]) fun l h h0 ih => by
    rw [badL_good h h0]
    have := (chr_le l).1
    simp only [List.length_drop] at ih
    omega

/-- Is it a text? -/
def good (l : List UInt8) : Bool := badL l == l.length
theorem good_iff (l : List UInt8) : good l = true ↔ badL l = l.length := by simp [good]
theorem good_nil : good [] = true := rfl
theorem good_front {l : List UInt8} (h : good l = true) (hl : l ≠ []) : chr l ≠ 0 ∧ bt l 0 ≠ 0 ∧ good (l.drop (chr l)) = true := by
  have hp := List.length_pos_iff.2 hl
  rw [good_iff] at h
  by_cases hc : chr l = 0 ∨ bt l 0 = 0
  · rw [badL_bad hc] at h
    omega
  · have h1 : chr l ≠ 0 := fun e => hc (Or.inl e)
    have h2 : bt l 0 ≠ 0 := fun e => hc (Or.inr e)
    refine ⟨h1, h2, ?_⟩
    rw [badL_good h1 h2] at h
    rw [good_iff, List.length_drop]
    omega
theorem good_cons {l : List UInt8} (h1 : chr l ≠ 0) (h2 : bt l 0 ≠ 0) (h : good (l.drop (chr l)) = true) : good l = true := by
  rw [good_iff] at h ⊢
  rw [badL_good h1 h2, h, List.length_drop]
  have := (chr_le l).1
  omega
/-- By a text's characters. -/
theorem byGood {C : List UInt8 → Prop} (hnil : C []) (hgood : ∀ l, chr l ≠ 0 → bt l 0 ≠ 0 → good (l.drop (chr l)) = true → C (l.drop (chr l)) → C l) : ∀ l, good l = true → C l := by
  refine byPieces (C := fun l => good l = true → C l) (fun _ => hnil) (fun l hl hb hg => ?_) (fun l h h0 ih hg => ?_)
  · have := good_front hg hl
    omega
  · exact hgood l h h0 (good_front hg (ne_of_chr h)).2.2 (ih (good_front hg (ne_of_chr h)).2.2)

theorem drop_append_chr {a b : List UInt8} (h : chr a ≠ 0) : (a ++ b).drop (chr (a ++ b)) = a.drop (chr a) ++ b := by
  rw [chr_append b h, List.drop_append_of_le_length (chr_le a).1]
theorem bt0_append {a b : List UInt8} (h : a ≠ []) : bt (a ++ b) 0 = bt a 0 := bt_append a b 0 ((List.length_pos_iff.2 h))

/-- In front of whatever it is, a text is passed over. -/
theorem badL_append (b : List UInt8) : ∀ a, good a = true → badL (a ++ b) = a.length + badL b := by
  refine byGood (by simp) (fun a h h0 _ ih => ?_)
  have hl := ne_of_chr h
  have e : chr (a ++ b) ≠ 0 := by rw [chr_append b h]; exact h
  rw [badL_good e (by rw [bt0_append hl]; exact h0), drop_append_chr h, ih, chr_append b h, List.length_drop]
  have := (chr_le a).1
  omega
theorem good_append (a b : List UInt8) (h : good a = true) : good (a ++ b) = good b := by
  have := badL_append b a h
  rw [Bool.eq_iff_iff, good_iff, good_iff, this, List.length_append]
  omega

/-- No text has the byte ff. -/
theorem chrN_no_ff (n b0 b1 b2 b3 : Nat) (h : chrN n b0 b1 b2 b3 ≠ 0) : b0 ≠ 255 ∧ (1 < chrN n b0 b1 b2 b3 → b1 ≠ 255) ∧ (2 < chrN n b0 b1 b2 b3 → b2 ≠ 255) ∧ (3 < chrN n b0 b1 b2 b3 → b3 ≠ 255) := by
  revert h
  unfold chrN
  repeat' split
  all_goals (intro h; omega)
theorem chr_no_ff (l : List UInt8) (h : chr l ≠ 0) : ∀ i, i < chr l → bt l i ≠ 255 := by
  intro i hi
  have h4 := (chr_le l).2
  have e := chr_of_ne (ne_of_chr h)
  have := chrN_no_ff l.length (bt l 0) (bt l 1) (bt l 2) (bt l 3) (by rw [← e]; exact h)
  rw [← e] at this
  rcases (show i = 0 ∨ i = 1 ∨ i = 2 ∨ i = 3 by omega) with rfl | rfl | rfl | rfl
  · exact this.1
  · exact this.2.1 hi
  · exact this.2.2.1 hi
  · exact this.2.2.2 hi
theorem good_no_ff : ∀ l, good l = true → ∀ i, i < l.length → bt l i ≠ 255 := by
  refine byGood (by simp) (fun l h _ _ ih i hi => ?_)
  by_cases hc : i < chr l
  · exact chr_no_ff l h i hc
  · have := ih (i - chr l) (by simp; omega)
    rw [bt_drop] at this
    rwa [show chr l + (i - chr l) = i by omega] at this
theorem not_good_ff (a b : List UInt8) : good (a ++ [255] ++ b) = false := by
  rw [Bool.eq_false_iff]
  intro h
  refine good_no_ff _ h a.length (by simp) ?_
  simp [bt]

end Go.Proofs.YtedddekkbgaolaaDoor.Tx
