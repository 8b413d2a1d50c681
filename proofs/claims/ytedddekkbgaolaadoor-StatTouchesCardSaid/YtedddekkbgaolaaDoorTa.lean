/- stat's asks, put, Keep. (Printed by wip/bin/genask.py.) -/
import Derived.Test.YtedddekkbgaolaaDoorAw
import Derived.Test.YtedddekkbgaolaaDoorTo
import Derived.Laws.BitsAllLaws
namespace Go.Proofs.YtedddekkbgaolaaDoor
open Go.RowKit Me

theorem nat_ne {a b : Nat} (h : a ≠ b) : ((a : Int) != (b : Int)) = true := by rw [bne_iff_ne]; omega
theorem nat_ne_self (a : Nat) : ((a : Int) != (a : Int)) = false := by simp
theorem asks_u16 (a k h : Nat) (w : World) : Calls Tryd.prog 111 #[.int .u16 (a : Int), .int .u16 (k : Int), .int .u16 (h : Int)] w fun e w' => e = .returned (.bool (askN a k h)) ∧ w = w' := by
  by_cases h1 : a = k
  · subst h1
    rw [askN_self]
    have b1 := nat_ne_self a
    generalize (a : Int) = x at *
    go_enter Tryd.func111, Tryd.ntmps111
    go_wp2_with fail
    go_ret
    exact ⟨rfl, rfl⟩
  · have b1 := nat_ne h1
    by_cases h2 : a = h
    · subst h2
      rw [askN_same]
      have b2 := nat_ne_self a
      clear h1
      generalize (a : Int) = x at *
      generalize (k : Int) = y at *
      go_enter Tryd.func111, Tryd.ntmps111
      go_wp2_with fail
      go_ret
      exact ⟨rfl, rfl⟩
    · have b2 := nat_ne h2
      rw [show askN a k h = true by simp [askN, h1, h2]]
      clear h1 h2
      generalize (a : Int) = x at *
      generalize (k : Int) = y at *
      generalize (h : Int) = z at *
      go_enter Tryd.func111, Tryd.ntmps111
      go_wp2_with fail
      go_ret
      exact ⟨rfl, rfl⟩
theorem asks_u32 (a k h : Nat) (w : World) : Calls Tryd.prog 112 #[.int .u32 (a : Int), .int .u32 (k : Int), .int .u32 (h : Int)] w fun e w' => e = .returned (.bool (askN a k h)) ∧ w = w' := by
  by_cases h1 : a = k
  · subst h1
    rw [askN_self]
    have b1 := nat_ne_self a
    generalize (a : Int) = x at *
    go_enter Tryd.func112, Tryd.ntmps112
    go_wp2_with fail
    go_ret
    exact ⟨rfl, rfl⟩
  · have b1 := nat_ne h1
    by_cases h2 : a = h
    · subst h2
      rw [askN_same]
      have b2 := nat_ne_self a
      clear h1
      generalize (a : Int) = x at *
      generalize (k : Int) = y at *
      go_enter Tryd.func112, Tryd.ntmps112
      go_wp2_with fail
      go_ret
      exact ⟨rfl, rfl⟩
    · have b2 := nat_ne h2
      rw [show askN a k h = true by simp [askN, h1, h2]]
      clear h1 h2
      generalize (a : Int) = x at *
      generalize (k : Int) = y at *
      generalize (h : Int) = z at *
      go_enter Tryd.func112, Tryd.ntmps112
      go_wp2_with fail
      go_ret
      exact ⟨rfl, rfl⟩
theorem asks_u8 (a k h : Nat) (w : World) : Calls Tryd.prog 113 #[.int .u8 (a : Int), .int .u8 (k : Int), .int .u8 (h : Int)] w fun e w' => e = .returned (.bool (askN a k h)) ∧ w = w' := by
  by_cases h1 : a = k
  · subst h1
    rw [askN_self]
    have b1 := nat_ne_self a
    generalize (a : Int) = x at *
    go_enter Tryd.func113, Tryd.ntmps113
    go_wp2_with fail
    go_ret
    exact ⟨rfl, rfl⟩
  · have b1 := nat_ne h1
    by_cases h2 : a = h
    · subst h2
      rw [askN_same]
      have b2 := nat_ne_self a
      clear h1
      generalize (a : Int) = x at *
      generalize (k : Int) = y at *
      go_enter Tryd.func113, Tryd.ntmps113
      go_wp2_with fail
      go_ret
      exact ⟨rfl, rfl⟩
    · have b2 := nat_ne h2
      rw [show askN a k h = true by simp [askN, h1, h2]]
      clear h1 h2
      generalize (a : Int) = x at *
      generalize (k : Int) = y at *
      generalize (h : Int) = z at *
      go_enter Tryd.func113, Tryd.ntmps113
      go_wp2_with fail
      go_ret
      exact ⟨rfl, rfl⟩
theorem asks_u64 (a k h : Nat) (w : World) : Calls Tryd.prog 114 #[.int .u64 (a : Int), .int .u64 (k : Int), .int .u64 (h : Int)] w fun e w' => e = .returned (.bool (askN a k h)) ∧ w = w' := by
  by_cases h1 : a = k
  · subst h1
    rw [askN_self]
    have b1 := nat_ne_self a
    generalize (a : Int) = x at *
    go_enter Tryd.func114, Tryd.ntmps114
    go_wp2_with fail
    go_ret
    exact ⟨rfl, rfl⟩
  · have b1 := nat_ne h1
    by_cases h2 : a = h
    · subst h2
      rw [askN_same]
      have b2 := nat_ne_self a
      clear h1
      generalize (a : Int) = x at *
      generalize (k : Int) = y at *
      go_enter Tryd.func114, Tryd.ntmps114
      go_wp2_with fail
      go_ret
      exact ⟨rfl, rfl⟩
    · have b2 := nat_ne h2
      rw [show askN a k h = true by simp [askN, h1, h2]]
      clear h1 h2
      generalize (a : Int) = x at *
      generalize (k : Int) = y at *
      generalize (h : Int) = z at *
      go_enter Tryd.func114, Tryd.ntmps114
      go_wp2_with fail
      go_ret
      exact ⟨rfl, rfl⟩
theorem list_eq (a b : ByteArray) : (a.toList == b.toList) = decide (a = b) := by
  rw [ByteArray.toList_eq, ByteArray.toList_eq]
  obtain ⟨⟨x⟩⟩ := a
  obtain ⟨⟨y⟩⟩ := b
  by_cases h : x = y
  · subst h
    simp
  · simp [h]
theorem askT_list (a k h : ByteArray) : askT a k h = (!(a.toList == k.toList) && !(a.toList == h.toList)) := by
  rw [list_eq, list_eq]
  unfold askT
  by_cases h1 : a = k <;> by_cases h2 : a = h <;> simp [h1, h2]
theorem asks_text (a k h : ByteArray) (w : World) : Calls Tryd.prog 115 #[.string a, .string k, .string h] w fun e w' => e = .returned (.bool (askT a k h)) ∧ w = w' := by
  have HE := Lib.hid (askT_list a k h)
  go_enter Tryd.func115, Tryd.ntmps115
  go_wp2_with fail
  · have h1 : a.toList = k.toList := by assumption
    go_ret
    rw [HE.out, h1]
    simp
  · go_ret
    rw [HE.out]
    exact ⟨rfl, rfl⟩
theorem keep_any (w : World) : Calls Tryd.prog 65 #[] w fun e w' => e = .returned (.agg (statV keepS)) ∧ Mods [] w w' := by
  go_enter Tryd.func65, Tryd.ntmps65
  go_wp2_with fail
  refine bodyPost_ret (v := .agg #[.int .u16 65535, .int .u32 4294967295, .int .u8 255, .int .u32 4294967295, .int .u64 18446744073709551615, .int .u32 4294967295, .int .u32 4294967295, .int .u32 4294967295, .int .u64 18446744073709551615, .string ⟨#[]⟩, .string ⟨#[]⟩, .string ⟨#[]⟩, .string ⟨#[]⟩]) (by simp [results, Tryd.results65, go_sem]) rfl ⟨rfl, (Mods.refl _ _).alloc _⟩
theorem bit_and (f i : Nat) (hf : f < 65536) (hi : i < 13) : (bits .and .u16 (f : Int) ((2 ^ i : Nat) : Int) != 0) = decide (f / 2 ^ i % 2 = 1) := by
  have h2 : 2 ^ i ≤ 4096 := Nat.pow_le_pow_right (n := 2) (by omega) (by omega : i ≤ 12)
  rw [u16_and_nat f (2 ^ i) hf (by omega), nat_bit]
  have hp : 0 < 2 ^ i := Nat.two_pow_pos i
  rcases (show f / 2 ^ i % 2 = 0 ∨ f / 2 ^ i % 2 = 1 by omega) with h | h
  · rw [h]
    simp
  · rw [h, Nat.one_mul, decide_eq_true rfl]
    exact bne_iff_ne.2 (by omega)
/-- A field laid down, or not. -/
def PutPost (b : Bool) (p : Addr) (v : Value) (w : World) (e : Ending) (w' : World) : Prop := e = .returned (.tuple #[]) ∧ sel b (w.setCell p v) w = w'
theorem put_u16 (f q : Int) (b : Bool) (hb : (bits .and .u16 f q != 0) = b) (p : Addr) (v : Int) (o : Int) (w : World) (hc : w.cell? p = some (.int .u16 o)) (hf : w.frozen? p = false) :
    Calls Tryd.prog 116 #[.int .u16 f, .int .u16 q, .pointer (some p), .int .u16 v] w (PutPost b p (.int .u16 v) w) := by
  cases b
  · go_enter Tryd.func116, Tryd.ntmps116
    go_wp2_with fail
    go_end0
    exact ⟨rfl, rfl⟩
  · go_enter Tryd.func116, Tryd.ntmps116
    go_wp2_with fail
    go_end0
    exact ⟨rfl, rfl⟩
theorem put_u32 (f q : Int) (b : Bool) (hb : (bits .and .u16 f q != 0) = b) (p : Addr) (v : Int) (o : Int) (w : World) (hc : w.cell? p = some (.int .u32 o)) (hf : w.frozen? p = false) :
    Calls Tryd.prog 117 #[.int .u16 f, .int .u16 q, .pointer (some p), .int .u32 v] w (PutPost b p (.int .u32 v) w) := by
  cases b
  · go_enter Tryd.func117, Tryd.ntmps117
    go_wp2_with fail
    go_end0
    exact ⟨rfl, rfl⟩
  · go_enter Tryd.func117, Tryd.ntmps117
    go_wp2_with fail
    go_end0
    exact ⟨rfl, rfl⟩
theorem put_u8 (f q : Int) (b : Bool) (hb : (bits .and .u16 f q != 0) = b) (p : Addr) (v : Int) (o : Int) (w : World) (hc : w.cell? p = some (.int .u8 o)) (hf : w.frozen? p = false) :
    Calls Tryd.prog 118 #[.int .u16 f, .int .u16 q, .pointer (some p), .int .u8 v] w (PutPost b p (.int .u8 v) w) := by
  cases b
  · go_enter Tryd.func118, Tryd.ntmps118
    go_wp2_with fail
    go_end0
    exact ⟨rfl, rfl⟩
  · go_enter Tryd.func118, Tryd.ntmps118
    go_wp2_with fail
    go_end0
    exact ⟨rfl, rfl⟩
theorem put_u64 (f q : Int) (b : Bool) (hb : (bits .and .u16 f q != 0) = b) (p : Addr) (v : Int) (o : Int) (w : World) (hc : w.cell? p = some (.int .u64 o)) (hf : w.frozen? p = false) :
    Calls Tryd.prog 119 #[.int .u16 f, .int .u16 q, .pointer (some p), .int .u64 v] w (PutPost b p (.int .u64 v) w) := by
  cases b
  · go_enter Tryd.func119, Tryd.ntmps119
    go_wp2_with fail
    go_end0
    exact ⟨rfl, rfl⟩
  · go_enter Tryd.func119, Tryd.ntmps119
    go_wp2_with fail
    go_end0
    exact ⟨rfl, rfl⟩
theorem put_s (f q : Int) (b : Bool) (hb : (bits .and .u16 f q != 0) = b) (p : Addr) (v : ByteArray) (o : ByteArray) (w : World) (hc : w.cell? p = some (.string o)) (hf : w.frozen? p = false) :
    Calls Tryd.prog 120 #[.int .u16 f, .int .u16 q, .pointer (some p), .string v] w (PutPost b p (.string v) w) := by
  cases b
  · go_enter Tryd.func120, Tryd.ntmps120
    go_wp2_with fail
    go_end0
    exact ⟨rfl, rfl⟩
  · go_enter Tryd.func120, Tryd.ntmps120
    go_wp2_with fail
    go_end0
    exact ⟨rfl, rfl⟩
end Go.Proofs.YtedddekkbgaolaaDoor
