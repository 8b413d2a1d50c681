/- Where a list of bytes is cut, and how a string is read character by character: the model's own reading against the characters of the plain text. No program. -/
import Derived.Test.YtedddekkbgaolaaDoorText
import Derived.Lib.Strings
namespace Go.Proofs.YtedddekkbgaolaaDoor.Tx
open Go Go.Lib

/-- How many bytes the piece in front has. -/
def wid (l : List UInt8) : Nat := max 1 (chr l)
theorem wid_pos (l : List UInt8) : 1 ≤ wid l := Nat.le_max_left _ _
theorem wid_le {l : List UInt8} (h : l ≠ []) : wid l ≤ l.length ∧ wid l ≤ 4 := by
  have := chr_le l
  have := List.length_pos_iff.2 h
  unfold wid
  omega
theorem wid_good {l : List UInt8} (h : chr l ≠ 0) : wid l = chr l := by unfold wid; omega
theorem wid_bad {l : List UInt8} (h : chr l = 0) : wid l = 1 := by unfold wid; omega

/-- By the pieces, good or bad. -/
theorem byWid {C : List UInt8 → Prop} (hnil : C []) (hs : ∀ l, l ≠ [] → C (l.drop (wid l)) → C l) : ∀ l, C l := by
  have key : ∀ (n : Nat) (l : List UInt8), l.length ≤ n → C l := by
    intro n
    induction n with
    | zero =>
      intro l h
      rw [List.eq_nil_of_length_eq_zero (by omega : l.length = 0)]
      exact hnil
    | succ n ih =>
      intro l h
      by_cases hl : l = []
      · rw [hl]; exact hnil
      · exact hs l hl (ih _ (by have := wid_pos l; simp; omega))
  exact fun l => key l.length l (Nat.le_refl _)

def cutF : Nat → List UInt8 → Int → Nat
  | 0, _, _ => 0
  | f + 1, l, m => if l = [] then 0 else if (wid l : Int) > m then 0 else wid l + cutF f (l.drop (wid l)) (m - wid l)
/-- How many bytes the longest beginning of whole pieces has that has at most so many. -/
def cutL (l : List UInt8) (m : Int) : Nat := cutF l.length l m

theorem cutF_more : ∀ (f g : Nat) (l : List UInt8) (m : Int), l.length ≤ f → l.length ≤ g → cutF f l m = cutF g l m
  | 0, 0, _, _, _, _ => rfl
  | 0, g + 1, l, m, h, _ => by
    have : l = [] := List.eq_nil_of_length_eq_zero (by omega)
    simp [cutF, this]
  | f + 1, 0, l, m, _, h => by
    have : l = [] := List.eq_nil_of_length_eq_zero (by omega)
    simp [cutF, this]
  | f + 1, g + 1, l, m, h1, h2 => by
    simp only [cutF]
    have := wid_pos l
    rw [cutF_more f g (l.drop (wid l)) (m - wid l) (by simp; omega) (by simp; omega)]
theorem cutL_nil (m : Int) : cutL [] m = 0 := rfl
theorem cutL_stop {l : List UInt8} {m : Int} (h : (wid l : Int) > m) : cutL l m = 0 := by
  unfold cutL
  cases hn : l.length with
  | zero => rfl
  | succ n => simp [cutF, h]
theorem cutL_go {l : List UInt8} {m : Int} (hl : l ≠ []) (h : ¬ (wid l : Int) > m) : cutL l m = wid l + cutL (l.drop (wid l)) (m - wid l) := by
  have hp := wid_pos l
  have hw := (wid_le hl).1
  unfold cutL
  cases hn : l.length with
  | zero => exact absurd (List.eq_nil_of_length_eq_zero hn) hl
  | succ n =>
    simp only [cutF]
    rw [if_neg hl, if_neg h, cutF_more n (l.drop (wid l)).length _ _ (by simp; omega) (Nat.le_refl _)]

theorem cutL_le : ∀ l m, cutL l m ≤ l.length :=
  byWid (by simp [cutL_nil]) fun l hl ih m => by
    by_cases h : (wid l : Int) > m
    · simp [cutL_stop h]
    · have := ih (m - wid l)
      have := (wid_le hl).1
      rw [cutL_go hl h]
      simp at *
      omega
theorem cutL_most : ∀ l m, 0 ≤ m → (cutL l m : Int) ≤ m :=
  byWid (fun m h => by simp [cutL_nil, h]) fun l hl ih m hm => by
    by_cases h : (wid l : Int) > m
    · simp [cutL_stop h, hm]
    · have := ih (m - wid l) (by omega)
      rw [cutL_go hl h]
      omega
theorem cutL_neg (l : List UInt8) (m : Int) (h : m < 0) : cutL l m = 0 := cutL_stop (by omega)
theorem cutL_all : ∀ l m, (l.length : Int) ≤ m → cutL l m = l.length :=
  byWid (fun m _ => rfl) fun l hl ih m hm => by
    have hw := (wid_le hl).1
    have := ih (m - wid l) (by simp; omega)
    rw [cutL_go hl (by omega), this, List.length_drop]
    omega
theorem cutL_far : ∀ l m, m < (l.length : Int) → m - 3 ≤ (cutL l m : Int) :=
  byWid (fun m h => by simp [cutL_nil] at *; omega) fun l hl ih m hm => by
    have hw := wid_le hl
    by_cases h : (wid l : Int) > m
    · rw [cutL_stop h]
      omega
    · have := ih (m - wid l) (by simp; omega)
      rw [cutL_go hl h]
      omega
theorem cut_good : ∀ l, good l = true → ∀ m, good (l.take (cutL l m)) = true :=
  byGood (fun m => rfl) fun l hc h0 _ ih m => by
    have hl := ne_of_chr hc
    by_cases h : (wid l : Int) > m
    · rw [cutL_stop h]
      exact good_nil
    · rw [cutL_go hl h, wid_good hc]
      have ih' := ih (m - chr l)
      generalize cutL (l.drop (chr l)) (m - chr l) = k at ih'
      have e : chr (l.take (chr l + k)) = chr l := chr_take hc (by omega)
      refine good_cons (by rw [e]; exact hc) (by rw [bt_take _ _ _ (by omega)]; exact h0) ?_
      rw [e, List.drop_take]
      have : chr l + k - chr l = k := by omega
      rw [this]
      exact ih'

/-- How the model reads a string. -/
theorem get_bt (s : ByteArray) (i : Nat) : (s.get! i).toNat = bt s.data.toList i := by
  by_cases h : i < s.data.size
  · have : s.get! i = s.data[i] := by
      show s.data[i]! = _
      rw [getElem!_pos s.data i h]
    rw [this, bt_at (by simpa using h)]
    simp
  · have : s.get! i = default := by
      show s.data[i]! = _
      rw [getElem!_neg s.data i h]
    rw [this]
    have hn : s.data.toList[i]? = none := List.getElem?_eq_none (by simpa using h)
    simp only [bt, hn]
    rfl
theorem decode_text (s : ByteArray) (p : Nat) (hp : p < s.size) :
    (chr (s.data.toList.drop p) = 0 → Utf8.decode s p = (65533, 1)) ∧
    (chr (s.data.toList.drop p) ≠ 0 → (Utf8.decode s p).2 = chr (s.data.toList.drop p) ∧ ((Utf8.decode s p).1 = 0 ↔ bt (s.data.toList.drop p) 0 = 0) ∧ ((Utf8.decode s p).1 = 65533 → chr (s.data.toList.drop p) = 3)) := by
  have hl : (s.data.toList.drop p).length = s.size - p := by simp
  have hne : s.data.toList.drop p ≠ [] := by
    intro e
    rw [e] at hl
    simp at hl
    omega
  rw [decode_at, chr_of_ne hne, hl, get_bt, get_bt, get_bt, get_bt, bt_drop, bt_drop, bt_drop, bt_drop, Nat.add_zero]
  exact decodeN_chrN _ _ _ _ _ (bt_lt _ _) (bt_lt _ _) (bt_lt _ _) (bt_lt _ _)
theorem tail_list (s : ByteArray) (p : Nat) : (s.extract p s.size).data.toList = s.data.toList.drop p := by
  rw [Lib.extract_data, List.take_of_length_le (by simp)]
theorem decode_tail (s : ByteArray) (p : Nat) : Utf8.decode (s.extract p s.size) 0 = Utf8.decode s p := by
  have hz : (s.extract p s.size).size = s.size - p := by simp
  rw [decode_at, decode_at, get_bt, get_bt, get_bt, get_bt, get_bt, get_bt, get_bt, get_bt, tail_list, hz, bt_drop, bt_drop, bt_drop, bt_drop]
  simp
theorem decode_wid (s : ByteArray) (p : Nat) (hp : p < s.size) : (Utf8.decode s p).2 = wid (s.data.toList.drop p) := by
  obtain ⟨h1, h2⟩ := decode_text s p hp
  by_cases h : chr (s.data.toList.drop p) = 0
  · rw [h1 h, wid_bad h]
  · rw [(h2 h).1, wid_good h]

end Go.Proofs.YtedddekkbgaolaaDoor.Tx
