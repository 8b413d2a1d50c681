/- Where a list of bytes is cut, and how a string is read character by character: the model's own reading against the characters of the plain text. No program. -/
import Derived.Test.YtmcekhgmmocajaaDoorText
import Derived.Lib.Strings
namespace Go.Proofs.YtmcekhgmmocajaaDoor.Tx
open Go Go.Lib






/-- How the model reads a string. -/
theorem get_bt (s : ByteArray) (i : Nat) : (s.get! i).toNat = bt s.data.toList i := by
  by_cases h : i < s.data.size
  · have : s.get! i = s.data[i] := by
      show s.data[i]! = _
      rw [getElem!_pos s.data i h]
    rw [this, bt_at (by simpa using h)]
    simp
  · have : s.get! i = default := by
      show s.data[i]! = _
      rw [getElem!_neg s.data i h]
    rw [this]
    have hn : s.data.toList[i]? = none := List.getElem?_eq_none (by simpa using h)
    simp only [bt, hn]
    rfl
theorem decode_text (s : ByteArray) (p : Nat) (hp : p < s.size) :
    (chr (s.data.toList.drop p) = 0 → Utf8.decode s p = (65533, 1)) ∧
    (chr (s.data.toList.drop p) ≠ 0 → (Utf8.decode s p).2 = chr (s.data.toList.drop p) ∧ ((Utf8.decode s p).1 = 0 ↔ bt (s.data.toList.drop p) 0 = 0) ∧ ((Utf8.decode s p).1 = 65533 → chr (s.data.toList.drop p) = 3)) := by
  have hl : (s.data.toList.drop p).length = s.size - p := by simp
  have hne : s.data.toList.drop p ≠ [] := by
    intro e
    rw [e] at hl
    simp at hl
    omega
  rw [decode_at, chr_of_ne hne, hl, get_bt, get_bt, get_bt, get_bt, bt_drop, bt_drop, bt_drop, bt_drop, Nat.add_zero]
  exact decodeN_chrN _ _ _ _ _ (bt_lt _ _) (bt_lt _ _) (bt_lt _ _) (bt_lt _ _)
theorem tail_list (s : ByteArray) (p : Nat) : (s.extract p s.size).data.toList = s.data.toList.drop p := by
  rw [Lib.extract_data, List.take_of_length_le (by simp)]
theorem decode_tail (s : ByteArray) (p : Nat) : Utf8.decode (s.extract p s.size) 0 = Utf8.decode s p := by
  have hz : (s.extract p s.size).size = s.size - p := by simp
  rw [decode_at, decode_at, get_bt, get_bt, get_bt, get_bt, get_bt, get_bt, get_bt, get_bt, tail_list, hz, bt_drop, bt_drop, bt_drop, bt_drop]
  simp

end Go.Proofs.YtmcekhgmmocajaaDoor.Tx
