/- The walks of auth.step and auth.Sum, on both sides. -/
import Derived.Test.YtmcekhgmmocajaaGreatDoorTn
import Derived.Test.YtmcekhgmmocajaaGreatDoorWu
namespace Go.Proofs.YtmcekhgmmocajaaGreatDoor
open Go.RowKit Me

theorem mul_wrap (x : Nat) : IntKind.u64.wrap ((x : Int) * 11800147728694460525) = ((mulS x : Nat) : Int) := by
  rw [IntKind.wrap_u64]
  unfold mulS
  omega
theorem sh_eq (y : Nat) (h : y < 18446744073709551616) : bits .xor .u64 (y : Int) ((y : Int) / 536870912) = ((shS y : Nat) : Int) := by
  rw [show (y : Int) / 536870912 = ((y / 536870912 : Nat) : Int) by omega, u64_xor_nat y _ h (by omega)]
  unfold shS
  rw [Nat.shiftRight_eq_div_pow]
theorem step_eq (h n : Nat) (hh : h < 18446744073709551616) (hn : n < 18446744073709551616) :
    bits .xor .u64 (IntKind.u64.wrap (bits .xor .u64 (h : Int) (n : Int) * 11800147728694460525)) (IntKind.u64.wrap (bits .xor .u64 (h : Int) (n : Int) * 11800147728694460525) / 536870912) = ((stepS h n : Nat) : Int) := by
  rw [u64_xor_nat h n hh hn, mul_wrap, sh_eq _ (mulS_lt _)]
  rfl
theorem step_any (h n : Nat) (w : World) (hh : h < 18446744073709551616) (hn : n < 18446744073709551616) :
    Calls Tryz.prog 55 #[.int .u64 (h : Int), .int .u64 (n : Int)] w fun x w' => x = .returned (.int .u64 (stepS h n : Nat)) ∧ w' = w := by
  have HS := Lib.hid (step_eq h n hh hn)
  go_enter Tryz.func55, Tryz.ntmps55
  go_wp2_with fail
  go_ret
  exact ⟨by rw [← HS.out]; rfl, rfl⟩
theorem rstep_any (h n : Nat) (w : World) (hh : h < 18446744073709551616) (hn : n < 18446744073709551616) :
    Calls Tryz.prog 102 #[.int .u64 (h : Int), .int .u64 (n : Int)] w fun x w' => x = .returned (.int .u64 (stepS h n : Nat)) ∧ w' = w := by
  have HS := Lib.hid (step_eq h n hh hn)
  go_enter Tryz.func102, Tryz.ntmps102
  go_wp2_with fail
  go_ret
  exact ⟨by rw [← HS.out]; rfl, rfl⟩

theorem sumF_nil (h : Nat) : sumF [] h = h := rfl
theorem sumF_next (s : ByteArray) (k : Nat) (h : k < s.size) : sumF (s.data.toList.take (k + 1)) 7880330927811272263 = stepS (sumF (s.data.toList.take k) 7880330927811272263) (s[k].toNat + 1) := by
  have hk : s.data.toList[k]? = some s[k] := by
    rw [Array.getElem?_toList]
    exact Array.getElem?_eq_getElem h
  rw [List.take_add_one, hk, sumF_append, Option.toList_some, sumF_cons, sumF_nil]
theorem sumD_eq (s : ByteArray) : sumD s.data.toList = stepS (stepS (sumF (s.data.toList.take s.size) 7880330927811272263) s.size) 0 := by
  unfold sumD
  rw [List.take_of_length_le (by simp), Array.length_toList]
  rfl
def RelSu (s : ByteArray) (w : World) (h i : Value) (wr : World) : Prop :=
  ∃ k : Nat, k ≤ s.size ∧ i = .int .i64 k ∧ h = .int .u64 (sumF (s.data.toList.take k) 7880330927811272263 : Nat) ∧ w = wr
set_option maxRecDepth 100000 in
theorem sum_any (s : ByteArray) (w : World) (hs : s.size ≤ 9223372036854775807) :
    Calls Tryz.prog 30 #[.string s, .slice none 0 0] w fun x w' => x = .returned (.int .u64 (sumD s.data.toList : Nat)) ∧ w' = w := by
  have HST := Lib.hid (fun h n w hh hn => step_any h n w hh hn)
  go_enter Tryz.func30, Tryz.ntmps30
  go_wp2_with fail
  go_loopw [5, 11] (fun h i wr => RelSu s w h i wr) (fun _ i _ => s.size - (intOf i).toNat)
  case atStart => exact ⟨0, by omega, rfl, by simp [sumF], rfl⟩
  case round =>
    obtain ⟨k, hk, rfl, rfl, rfl⟩ := hrel
    have HLT := Lib.hid (sumF_lt (s.data.toList.take k) (show (7880330927811272263 : Nat) < 18446744073709551616 by decide))
    rcases Nat.lt_or_ge k s.size with hlt | hge
    · have hb := s[k].toNat_lt
      have HN := Lib.hid (sumF_next s k hlt)
      generalize hb0 : sumF (s.data.toList.take k) 7880330927811272263 = q at *
      have HH := HST.out q (s[k].toNat + 1) w HLT.out (by omega)
      have e1 : ((s[k].toNat + 1 : Nat) : Int) = (s[k].toNat : Int) + 1 := by omega
      rw [e1] at HH
      have HN2 : Hid (stepS q (s[k].toNat + 1) = sumF (s.data.toList.take (k + 1)) 7880330927811272263) := Lib.hid HN.out.symm
      generalize stepS q (s[k].toNat + 1) = q2 at *
      have HC := Lib.hid HH
      clear HH HN HLT hb0
      go_wp2_with fail
      refine HC.out.mono ?_
      rintro x w1 ⟨rfl, rfl⟩
      go_wp2_with fail
      exact ⟨⟨k + 1, by omega, rfl, by rw [HN2.out], rfl⟩, by simp only [intOf]; omega⟩
    · obtain rfl : k = s.size := by omega
      have HD := Lib.hid (sumD_eq s)
      generalize sumF (s.data.toList.take s.size) 7880330927811272263 = q at *
      have HS1 := Lib.hid (HST.out q s.size w HLT.out (by omega))
      have HS2 := Lib.hid (HST.out (stepS q s.size) 0 w (stepS_lt _ _) (by omega))
      generalize stepS (stepS q s.size) 0 = z2 at *
      generalize stepS q s.size = z1 at *
      have hsz : ((s.size : Int) % 18446744073709551616) = (s.size : Int) := by omega
      go_wp2_with fail
      refine HS1.out.mono ?_
      rintro x w1 ⟨rfl, rfl⟩
      go_wp2_with fail
      go_loopw [5, 29] (fun h i wr => h = .int .u64 (z1 : Nat) ∧ i = .int .i64 0 ∧ w1 = wr) (fun _ _ _ => 0)
      case atStart => exact ⟨rfl, rfl, rfl⟩
      case round =>
        obtain ⟨rfl, rfl, rfl⟩ := hrel
        go_wp2_with fail
        refine HS2.out.mono ?_
        rintro x w2 ⟨rfl, rfl⟩
        go_wp2_with fail
        go_ret
        exact ⟨by rw [HD.out]; rfl, rfl⟩
set_option maxRecDepth 100000 in
theorem rsum_any (s : ByteArray) (w : World) (hs : s.size ≤ 9223372036854775807) :
    Calls Tryz.prog 69 #[.string s, .slice none 0 0] w fun x w' => x = .returned (.int .u64 (sumD s.data.toList : Nat)) ∧ w' = w := by
  have HST := Lib.hid (fun h n w hh hn => rstep_any h n w hh hn)
  go_enter Tryz.func69, Tryz.ntmps69
  go_wp2_with fail
  go_loopw [5, 6] (fun h i wr => RelSu s w h i wr) (fun _ i _ => s.size - (intOf i).toNat)
  case atStart => exact ⟨0, by omega, rfl, by simp [sumF], rfl⟩
  case round =>
    obtain ⟨k, hk, rfl, rfl, rfl⟩ := hrel
    have HLT := Lib.hid (sumF_lt (s.data.toList.take k) (show (7880330927811272263 : Nat) < 18446744073709551616 by decide))
    rcases Nat.lt_or_ge k s.size with hlt | hge
    · have hb := s[k].toNat_lt
      have HN := Lib.hid (sumF_next s k hlt)
      generalize hb0 : sumF (s.data.toList.take k) 7880330927811272263 = q at *
      have HH := HST.out q (s[k].toNat + 1) w HLT.out (by omega)
      have e1 : ((s[k].toNat + 1 : Nat) : Int) = (s[k].toNat : Int) + 1 := by omega
      rw [e1] at HH
      have HN2 : Hid (stepS q (s[k].toNat + 1) = sumF (s.data.toList.take (k + 1)) 7880330927811272263) := Lib.hid HN.out.symm
      generalize stepS q (s[k].toNat + 1) = q2 at *
      have HC := Lib.hid HH
      clear HH HN HLT hb0
      go_wp2_with fail
      refine HC.out.mono ?_
      rintro x w1 ⟨rfl, rfl⟩
      go_wp2_with fail
      exact ⟨⟨k + 1, by omega, rfl, by rw [HN2.out], rfl⟩, by simp only [intOf]; omega⟩
    · obtain rfl : k = s.size := by omega
      have HD := Lib.hid (sumD_eq s)
      generalize sumF (s.data.toList.take s.size) 7880330927811272263 = q at *
      have HS1 := Lib.hid (HST.out q s.size w HLT.out (by omega))
      have HS2 := Lib.hid (HST.out (stepS q s.size) 0 w (stepS_lt _ _) (by omega))
      generalize stepS (stepS q s.size) 0 = z2 at *
      generalize stepS q s.size = z1 at *
      have hsz : ((s.size : Int) % 18446744073709551616) = (s.size : Int) := by omega
      go_wp2_with fail
      refine HS1.out.mono ?_
      rintro x w1 ⟨rfl, rfl⟩
      go_wp2_with fail
      go_loopw [5, 7] (fun h i wr => h = .int .u64 (z1 : Nat) ∧ i = .int .i64 0 ∧ w1 = wr) (fun _ _ _ => 0)
      case atStart => exact ⟨rfl, rfl, rfl⟩
      case round =>
        obtain ⟨rfl, rfl, rfl⟩ := hrel
        go_wp2_with fail
        refine HS2.out.mono ?_
        rintro x w2 ⟨rfl, rfl⟩
        go_wp2_with fail
        go_ret
        exact ⟨by rw [HD.out]; rfl, rfl⟩
end Go.Proofs.YtmcekhgmmocajaaGreatDoor
