/- The reference's Bad and Good. -/
import Derived.Test.YtmcekhgmmocajaaDoorCt
namespace Go.Proofs.YtmcekhgmmocajaaDoor
open Go.RowKit Me

def RelBadR (s : ByteArray) (w : World) (i : Value) (wr : World) : Prop := ∃ p : Nat, p ≤ s.size ∧ i = .int .i64 p ∧ Tx.badL s.data.toList = p + Tx.badL (s.data.toList.drop p) ∧ w = wr
theorem bt_zero (s : ByteArray) (p : Nat) (h : p < s.size) : Tx.bt (s.data.toList.drop p) 0 = (s[p]'h).toNat := by rw [Tx.bt_drop, str_bt s p h]; rfl

set_option maxRecDepth 100000 in
set_option maxHeartbeats 1000000 in
theorem rbad_any (s : ByteArray) (w : World) (hs : s.size ≤ 1099511627776) :
    Calls Tryd.prog 73 #[.string s] w fun e w' => e = .returned (.int .i64 (Tx.badL s.data.toList : Int)) ∧ w = w' := by
  go_enter Tryd.func73, Tryd.ntmps73
  go_wp2_with fail
  go_loopw [3] (fun i wr => RelBadR s w i wr) (fun i _ => s.size - (intOf i).toNat)
  case atStart => exact ⟨0, Nat.zero_le _, rfl, by simp, rfl⟩
  case round =>
    obtain ⟨p, hp, rfl, hb, rfl⟩ := hrel
    have HB := Lib.hid hb
    clear hb
    rcases Nat.lt_or_ge p s.size with hlt | hge
    · have hle := (Tx.chr_le (s.data.toList.drop p)).1
      rw [List.length_drop, size_list] at hle
      have hz := bt_zero s p hlt
      have HBB := Lib.hid (@Tx.badL_bad (s.data.toList.drop p))
      have HBG := Lib.hid (@Tx.badL_good (s.data.toList.drop p))
      have HC := Lib.hid (char_any s p w hs hp)
      rw [hz] at HBB HBG
      clear hz
      generalize hcc : Tx.chr (s.data.toList.drop p) = n at *
      have HCC := Lib.hid hcc
      clear hcc
      by_cases hn : n = 0
      · subst hn
        have hbd := HBB.out (Or.inl rfl)
        have HD := Lib.hid hbd
        clear hbd
        go_wp2_with fail
        refine HC.out.mono ?_; rintro e w1 ⟨rfl, rfl⟩
        go_wp2_with fail
        go_ret
        exact ⟨by rw [HB.out, HD.out]; rfl, rfl⟩
      · have hn' : ((n : Int) == 0) = false := by rw [beq_eq_false_iff_ne]; omega
        by_cases h0 : s[p].toNat = 0
        · have hbd := HBB.out (Or.inr h0)
          have HD := Lib.hid hbd
          clear hbd
          go_wp2_with fail
          refine HC.out.mono ?_; rintro e w1 ⟨rfl, rfl⟩
          go_wp2_with fail
          go_ret
          exact ⟨by rw [HB.out, HD.out]; rfl, rfl⟩
        · have hbd := HBG.out hn h0
          have HD := Lib.hid hbd
          clear hbd
          have h0' : ((s[p].toNat : Int) == 0) = false := by rw [beq_eq_false_iff_ne]; omega
          go_wp2_with fail
          refine HC.out.mono ?_; rintro e w1 ⟨rfl, rfl⟩
          go_wp2_with fail
          exact ⟨⟨p + n, by omega, rfl, by rw [HB.out, HD.out, List.drop_drop]; omega, rfl⟩, by simp only [intOf]; omega⟩
    · obtain rfl : p = s.size := by omega
      go_wp2_with fail
      go_ret
      refine ⟨?_, rfl⟩
      have hd : s.data.toList.drop s.size = [] := List.drop_of_length_le (by rw [size_list]; omega)
      rw [HB.out, hd, Tx.badL_nil]
      rfl
theorem good_badL (l : List UInt8) : decide (Tx.badL l = l.length) = Tx.good l := by
  by_cases h : Tx.badL l = l.length <;> simp [Tx.good, h]
theorem rgood_any (s : ByteArray) (w : World) (hs : s.size ≤ 1099511627776) :
    Calls Tryd.prog 50 #[.string s] w fun e w' => e = .returned (.bool (Tx.good s.data.toList)) ∧ w = w' := by
  have HG := Lib.hid (good_badL s.data.toList)
  have HB := Lib.hid (rbad_any s w hs)
  generalize Tx.badL s.data.toList = n at *
  go_enter Tryd.func50, Tryd.ntmps50
  go_wp2_with fail
  refine HB.out.mono ?_; rintro e w1 ⟨rfl, rfl⟩
  go_wp2_with fail
  go_ret
  refine ⟨?_, rfl⟩
  rw [← HG.out, size_list]
  by_cases h : n = s.size
  · subst h; simp
  · have h2 : ((n : Int) == (s.size : Int)) = false := by rw [beq_eq_false_iff_ne]; omega
    simp [h, h2]

end Go.Proofs.YtmcekhgmmocajaaDoor
