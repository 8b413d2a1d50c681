/- The reference's Character, of every text and every place. -/
import Derived.Test.YtmcekhgmmocajaaDoorCh
namespace Go.Proofs.YtmcekhgmmocajaaDoor
open Go.RowKit Me

set_option maxHeartbeats 4000000 in
theorem char_any (s : ByteArray) (p : Nat) (w : World) (hs : s.size ≤ 1099511627776) (hp : p ≤ s.size) :
    Calls Tryd.prog 82 #[.string s, .int .i64 (p : Int)] w fun e w' => e = .returned (.int .i64 (Tx.chr (s.data.toList.drop p) : Int)) ∧ w = w' := by
  have hp' : p ≤ 1099511627776 := by omega
  by_cases hlt : p < s.data.toList.length
  · have hC : Tx.chr (s.data.toList.drop p) = Tx.chrN (s.data.toList.length - p) (Tx.bt s.data.toList p) (Tx.bt s.data.toList (p + 1)) (Tx.bt s.data.toList (p + 2)) (Tx.bt s.data.toList (p + 3)) := by
      rw [Tx.chr_of_ne (by intro h; have := congrArg List.length h; simp at this; rw [size_list] at hlt; omega), List.length_drop, Tx.bt_drop, Tx.bt_drop, Tx.bt_drop, Tx.bt_drop, Nat.add_zero]
    by_cases c1 : Tx.bt s.data.toList p < 128
    ·
      have e : Tx.chr (s.data.toList.drop p) = 1 := by
        rw [hC]
        unfold Tx.chrN
        repeat' split
        all_goals first | rfl | omega
      rw [e]
      exact ch_one s p w hs hp' (by simp only [wi]; exact decide_eq_true (by omega))
    by_cases c2 : 194 ≤ Tx.bt s.data.toList p ∧ Tx.bt s.data.toList p ≤ 223
    · by_cases d1 : p + 1 < s.data.toList.length ∧ 128 ≤ Tx.bt s.data.toList (p + 1) ∧ Tx.bt s.data.toList (p + 1) ≤ 191
      ·
        have e : Tx.chr (s.data.toList.drop p) = 2 := by
          rw [hC]
          unfold Tx.chrN
          repeat' split
          all_goals first | rfl | omega
        rw [e]
        exact ch_two s p w hs hp' (by simp only [wi]; exact decide_eq_false (by omega)) (by simp only [wi]; exact decide_eq_true (by omega)) (by simp only [wi]; exact decide_eq_true (by omega))
      ·
        have e : Tx.chr (s.data.toList.drop p) = 0 := by
          rw [hC]
          unfold Tx.chrN
          repeat' split
          all_goals first | rfl | omega
        rw [e]
        exact ch_twoX s p w hs hp' (by simp only [wi]; exact decide_eq_false (by omega)) (by simp only [wi]; exact decide_eq_true (by omega)) (by simp only [wi]; exact decide_eq_false (by omega)) (by simp only [wi]; exact decide_eq_false (by omega)) (by simp only [wi]; exact decide_eq_false (by omega)) (by simp only [wi]; exact decide_eq_false (by omega)) (by simp only [wi]; exact decide_eq_false (by omega)) (by simp only [wi]; exact decide_eq_false (by omega)) (by simp only [wi]; exact decide_eq_false (by omega))
    by_cases c_e0 : Tx.bt s.data.toList p = 224
    · by_cases d1 : p + 1 < s.data.toList.length ∧ 160 ≤ Tx.bt s.data.toList (p + 1) ∧ Tx.bt s.data.toList (p + 1) ≤ 191
      · by_cases d2 : p + 2 < s.data.toList.length ∧ 128 ≤ Tx.bt s.data.toList (p + 2) ∧ Tx.bt s.data.toList (p + 2) ≤ 191
        ·
          have e : Tx.chr (s.data.toList.drop p) = 3 := by
            rw [hC]
            unfold Tx.chrN
            repeat' split
            all_goals first | rfl | omega
          rw [e]
          exact ch_e0_tt s p w hs hp' (by simp only [wi]; exact decide_eq_false (by omega)) (by simp only [wi]; exact decide_eq_false (by omega)) (by simp only [wi]; exact decide_eq_true (by omega)) (by simp only [wi]; exact decide_eq_false (by omega)) (by simp only [wi]; exact decide_eq_true (by omega)) (by simp only [wi]; exact decide_eq_true (by omega)) (by simp only [wi]; exact decide_eq_true (by omega))
        ·
          have e : Tx.chr (s.data.toList.drop p) = 0 := by
            rw [hC]
            unfold Tx.chrN
            repeat' split
            all_goals first | rfl | omega
          rw [e]
          exact ch_e0_tf s p w hs hp' (by simp only [wi]; exact decide_eq_false (by omega)) (by simp only [wi]; exact decide_eq_false (by omega)) (by simp only [wi]; exact decide_eq_true (by omega)) (by simp only [wi]; exact decide_eq_false (by omega)) (by simp only [wi]; exact decide_eq_true (by omega)) (by simp only [wi]; exact decide_eq_true (by omega)) (by simp only [wi]; exact decide_eq_false (by omega)) (by simp only [wi]; exact decide_eq_false (by omega)) (by simp only [wi]; exact decide_eq_false (by omega)) (by simp only [wi]; exact decide_eq_false (by omega))
      ·
        have e : Tx.chr (s.data.toList.drop p) = 0 := by
          rw [hC]
          unfold Tx.chrN
          repeat' split
          all_goals first | rfl | omega
        rw [e]
        exact ch_e0_f s p w hs hp' (by simp only [wi]; exact decide_eq_false (by omega)) (by simp only [wi]; exact decide_eq_false (by omega)) (by simp only [wi]; exact decide_eq_true (by omega)) (by simp only [wi]; exact decide_eq_false (by omega)) (by simp only [wi]; exact decide_eq_true (by omega)) (by simp only [wi]; exact decide_eq_false (by omega)) (by simp only [wi]; exact decide_eq_false (by omega)) (by simp only [wi]; exact decide_eq_false (by omega)) (by simp only [wi]; exact decide_eq_false (by omega))
    by_cases c_ed : Tx.bt s.data.toList p = 237
    · by_cases d1 : p + 1 < s.data.toList.length ∧ 128 ≤ Tx.bt s.data.toList (p + 1) ∧ Tx.bt s.data.toList (p + 1) ≤ 159
      · by_cases d2 : p + 2 < s.data.toList.length ∧ 128 ≤ Tx.bt s.data.toList (p + 2) ∧ Tx.bt s.data.toList (p + 2) ≤ 191
        ·
          have e : Tx.chr (s.data.toList.drop p) = 3 := by
            rw [hC]
            unfold Tx.chrN
            repeat' split
            all_goals first | rfl | omega
          rw [e]
          exact ch_ed_tt s p w hs hp' (by simp only [wi]; exact decide_eq_false (by omega)) (by simp only [wi]; exact decide_eq_false (by omega)) (by simp only [wi]; exact decide_eq_false (by omega)) (by simp only [wi]; exact decide_eq_true (by omega)) (by simp only [wi]; exact decide_eq_true (by omega)) (by simp only [wi]; exact decide_eq_true (by omega)) (by simp only [wi]; exact decide_eq_true (by omega))
        ·
          have e : Tx.chr (s.data.toList.drop p) = 0 := by
            rw [hC]
            unfold Tx.chrN
            repeat' split
            all_goals first | rfl | omega
          rw [e]
          exact ch_ed_tf s p w hs hp' (by simp only [wi]; exact decide_eq_false (by omega)) (by simp only [wi]; exact decide_eq_false (by omega)) (by simp only [wi]; exact decide_eq_false (by omega)) (by simp only [wi]; exact decide_eq_true (by omega)) (by simp only [wi]; exact decide_eq_true (by omega)) (by simp only [wi]; exact decide_eq_true (by omega)) (by simp only [wi]; exact decide_eq_false (by omega)) (by simp only [wi]; exact decide_eq_false (by omega)) (by simp only [wi]; exact decide_eq_false (by omega)) (by simp only [wi]; exact decide_eq_false (by omega))
      ·
        have e : Tx.chr (s.data.toList.drop p) = 0 := by
          rw [hC]
          unfold Tx.chrN
          repeat' split
          all_goals first | rfl | omega
        rw [e]
        exact ch_ed_f s p w hs hp' (by simp only [wi]; exact decide_eq_false (by omega)) (by simp only [wi]; exact decide_eq_false (by omega)) (by simp only [wi]; exact decide_eq_false (by omega)) (by simp only [wi]; exact decide_eq_true (by omega)) (by simp only [wi]; exact decide_eq_true (by omega)) (by simp only [wi]; exact decide_eq_false (by omega)) (by simp only [wi]; exact decide_eq_false (by omega)) (by simp only [wi]; exact decide_eq_false (by omega)) (by simp only [wi]; exact decide_eq_false (by omega))
    by_cases c_ex : 224 ≤ Tx.bt s.data.toList p ∧ Tx.bt s.data.toList p ≤ 239
    · by_cases d1 : p + 1 < s.data.toList.length ∧ 128 ≤ Tx.bt s.data.toList (p + 1) ∧ Tx.bt s.data.toList (p + 1) ≤ 191
      · by_cases d2 : p + 2 < s.data.toList.length ∧ 128 ≤ Tx.bt s.data.toList (p + 2) ∧ Tx.bt s.data.toList (p + 2) ≤ 191
        ·
          have e : Tx.chr (s.data.toList.drop p) = 3 := by
            rw [hC]
            unfold Tx.chrN
            repeat' split
            all_goals first | rfl | omega
          rw [e]
          exact ch_ex_tt s p w hs hp' (by simp only [wi]; exact decide_eq_false (by omega)) (by simp only [wi]; exact decide_eq_false (by omega)) (by simp only [wi]; exact decide_eq_false (by omega)) (by simp only [wi]; exact decide_eq_false (by omega)) (by simp only [wi]; exact decide_eq_true (by omega)) (by simp only [wi]; exact decide_eq_true (by omega)) (by simp only [wi]; exact decide_eq_true (by omega))
        ·
          have e : Tx.chr (s.data.toList.drop p) = 0 := by
            rw [hC]
            unfold Tx.chrN
            repeat' split
            all_goals first | rfl | omega
          rw [e]
          exact ch_ex_tf s p w hs hp' (by simp only [wi]; exact decide_eq_false (by omega)) (by simp only [wi]; exact decide_eq_false (by omega)) (by simp only [wi]; exact decide_eq_false (by omega)) (by simp only [wi]; exact decide_eq_false (by omega)) (by simp only [wi]; exact decide_eq_true (by omega)) (by simp only [wi]; exact decide_eq_true (by omega)) (by simp only [wi]; exact decide_eq_false (by omega)) (by simp only [wi]; exact decide_eq_false (by omega)) (by simp only [wi]; exact decide_eq_false (by omega)) (by simp only [wi]; exact decide_eq_false (by omega))
      ·
        have e : Tx.chr (s.data.toList.drop p) = 0 := by
          rw [hC]
          unfold Tx.chrN
          repeat' split
          all_goals first | rfl | omega
        rw [e]
        exact ch_ex_f s p w hs hp' (by simp only [wi]; exact decide_eq_false (by omega)) (by simp only [wi]; exact decide_eq_false (by omega)) (by simp only [wi]; exact decide_eq_false (by omega)) (by simp only [wi]; exact decide_eq_false (by omega)) (by simp only [wi]; exact decide_eq_true (by omega)) (by simp only [wi]; exact decide_eq_false (by omega)) (by simp only [wi]; exact decide_eq_false (by omega)) (by simp only [wi]; exact decide_eq_false (by omega)) (by simp only [wi]; exact decide_eq_false (by omega))
    by_cases c_f0 : Tx.bt s.data.toList p = 240
    · by_cases d1 : p + 1 < s.data.toList.length ∧ 144 ≤ Tx.bt s.data.toList (p + 1) ∧ Tx.bt s.data.toList (p + 1) ≤ 191
      · by_cases d2 : p + 2 < s.data.toList.length ∧ 128 ≤ Tx.bt s.data.toList (p + 2) ∧ Tx.bt s.data.toList (p + 2) ≤ 191
        · by_cases d3 : p + 3 < s.data.toList.length ∧ 128 ≤ Tx.bt s.data.toList (p + 3) ∧ Tx.bt s.data.toList (p + 3) ≤ 191
          ·
            have e : Tx.chr (s.data.toList.drop p) = 4 := by
              rw [hC]
              unfold Tx.chrN
              repeat' split
              all_goals first | rfl | omega
            rw [e]
            exact ch_f0_ttt s p w hs hp' (by simp only [wi]; exact decide_eq_false (by omega)) (by simp only [wi]; exact decide_eq_false (by omega)) (by simp only [wi]; exact decide_eq_false (by omega)) (by simp only [wi]; exact decide_eq_false (by omega)) (by simp only [wi]; exact decide_eq_false (by omega)) (by simp only [wi]; exact decide_eq_true (by omega)) (by simp only [wi]; exact decide_eq_false (by omega)) (by simp only [wi]; exact decide_eq_true (by omega)) (by simp only [wi]; exact decide_eq_true (by omega)) (by simp only [wi]; exact decide_eq_true (by omega)) (by simp only [wi]; exact decide_eq_true (by omega))
          ·
            have e : Tx.chr (s.data.toList.drop p) = 0 := by
              rw [hC]
              unfold Tx.chrN
              repeat' split
              all_goals first | rfl | omega
            rw [e]
            exact ch_f0_ttf s p w hs hp' (by simp only [wi]; exact decide_eq_false (by omega)) (by simp only [wi]; exact decide_eq_false (by omega)) (by simp only [wi]; exact decide_eq_false (by omega)) (by simp only [wi]; exact decide_eq_false (by omega)) (by simp only [wi]; exact decide_eq_false (by omega)) (by simp only [wi]; exact decide_eq_true (by omega)) (by simp only [wi]; exact decide_eq_false (by omega)) (by simp only [wi]; exact decide_eq_true (by omega)) (by simp only [wi]; exact decide_eq_true (by omega)) (by simp only [wi]; exact decide_eq_true (by omega)) (by simp only [wi]; exact decide_eq_false (by omega))
        ·
          have e : Tx.chr (s.data.toList.drop p) = 0 := by
            rw [hC]
            unfold Tx.chrN
            repeat' split
            all_goals first | rfl | omega
          rw [e]
          exact ch_f0_tf s p w hs hp' (by simp only [wi]; exact decide_eq_false (by omega)) (by simp only [wi]; exact decide_eq_false (by omega)) (by simp only [wi]; exact decide_eq_false (by omega)) (by simp only [wi]; exact decide_eq_false (by omega)) (by simp only [wi]; exact decide_eq_false (by omega)) (by simp only [wi]; exact decide_eq_true (by omega)) (by simp only [wi]; exact decide_eq_false (by omega)) (by simp only [wi]; exact decide_eq_true (by omega)) (by simp only [wi]; exact decide_eq_true (by omega)) (by simp only [wi]; exact decide_eq_false (by omega))
      ·
        have e : Tx.chr (s.data.toList.drop p) = 0 := by
          rw [hC]
          unfold Tx.chrN
          repeat' split
          all_goals first | rfl | omega
        rw [e]
        exact ch_f0_f s p w hs hp' (by simp only [wi]; exact decide_eq_false (by omega)) (by simp only [wi]; exact decide_eq_false (by omega)) (by simp only [wi]; exact decide_eq_false (by omega)) (by simp only [wi]; exact decide_eq_false (by omega)) (by simp only [wi]; exact decide_eq_false (by omega)) (by simp only [wi]; exact decide_eq_true (by omega)) (by simp only [wi]; exact decide_eq_false (by omega)) (by simp only [wi]; exact decide_eq_true (by omega)) (by simp only [wi]; exact decide_eq_false (by omega))
    by_cases c_f4 : Tx.bt s.data.toList p = 244
    · by_cases d1 : p + 1 < s.data.toList.length ∧ 128 ≤ Tx.bt s.data.toList (p + 1) ∧ Tx.bt s.data.toList (p + 1) ≤ 143
      · by_cases d2 : p + 2 < s.data.toList.length ∧ 128 ≤ Tx.bt s.data.toList (p + 2) ∧ Tx.bt s.data.toList (p + 2) ≤ 191
        · by_cases d3 : p + 3 < s.data.toList.length ∧ 128 ≤ Tx.bt s.data.toList (p + 3) ∧ Tx.bt s.data.toList (p + 3) ≤ 191
          ·
            have e : Tx.chr (s.data.toList.drop p) = 4 := by
              rw [hC]
              unfold Tx.chrN
              repeat' split
              all_goals first | rfl | omega
            rw [e]
            exact ch_f4_ttt s p w hs hp' (by simp only [wi]; exact decide_eq_false (by omega)) (by simp only [wi]; exact decide_eq_false (by omega)) (by simp only [wi]; exact decide_eq_false (by omega)) (by simp only [wi]; exact decide_eq_false (by omega)) (by simp only [wi]; exact decide_eq_false (by omega)) (by simp only [wi]; exact decide_eq_false (by omega)) (by simp only [wi]; exact decide_eq_true (by omega)) (by simp only [wi]; exact decide_eq_true (by omega)) (by simp only [wi]; exact decide_eq_true (by omega)) (by simp only [wi]; exact decide_eq_true (by omega)) (by simp only [wi]; exact decide_eq_true (by omega))
          ·
            have e : Tx.chr (s.data.toList.drop p) = 0 := by
              rw [hC]
              unfold Tx.chrN
              repeat' split
              all_goals first | rfl | omega
            rw [e]
            exact ch_f4_ttf s p w hs hp' (by simp only [wi]; exact decide_eq_false (by omega)) (by simp only [wi]; exact decide_eq_false (by omega)) (by simp only [wi]; exact decide_eq_false (by omega)) (by simp only [wi]; exact decide_eq_false (by omega)) (by simp only [wi]; exact decide_eq_false (by omega)) (by simp only [wi]; exact decide_eq_false (by omega)) (by simp only [wi]; exact decide_eq_true (by omega)) (by simp only [wi]; exact decide_eq_true (by omega)) (by simp only [wi]; exact decide_eq_true (by omega)) (by simp only [wi]; exact decide_eq_true (by omega)) (by simp only [wi]; exact decide_eq_false (by omega))
        ·
          have e : Tx.chr (s.data.toList.drop p) = 0 := by
            rw [hC]
            unfold Tx.chrN
            repeat' split
            all_goals first | rfl | omega
          rw [e]
          exact ch_f4_tf s p w hs hp' (by simp only [wi]; exact decide_eq_false (by omega)) (by simp only [wi]; exact decide_eq_false (by omega)) (by simp only [wi]; exact decide_eq_false (by omega)) (by simp only [wi]; exact decide_eq_false (by omega)) (by simp only [wi]; exact decide_eq_false (by omega)) (by simp only [wi]; exact decide_eq_false (by omega)) (by simp only [wi]; exact decide_eq_true (by omega)) (by simp only [wi]; exact decide_eq_true (by omega)) (by simp only [wi]; exact decide_eq_true (by omega)) (by simp only [wi]; exact decide_eq_false (by omega))
      ·
        have e : Tx.chr (s.data.toList.drop p) = 0 := by
          rw [hC]
          unfold Tx.chrN
          repeat' split
          all_goals first | rfl | omega
        rw [e]
        exact ch_f4_f s p w hs hp' (by simp only [wi]; exact decide_eq_false (by omega)) (by simp only [wi]; exact decide_eq_false (by omega)) (by simp only [wi]; exact decide_eq_false (by omega)) (by simp only [wi]; exact decide_eq_false (by omega)) (by simp only [wi]; exact decide_eq_false (by omega)) (by simp only [wi]; exact decide_eq_false (by omega)) (by simp only [wi]; exact decide_eq_true (by omega)) (by simp only [wi]; exact decide_eq_true (by omega)) (by simp only [wi]; exact decide_eq_false (by omega))
    by_cases c_fx : 240 ≤ Tx.bt s.data.toList p ∧ Tx.bt s.data.toList p ≤ 244
    · by_cases d1 : p + 1 < s.data.toList.length ∧ 128 ≤ Tx.bt s.data.toList (p + 1) ∧ Tx.bt s.data.toList (p + 1) ≤ 191
      · by_cases d2 : p + 2 < s.data.toList.length ∧ 128 ≤ Tx.bt s.data.toList (p + 2) ∧ Tx.bt s.data.toList (p + 2) ≤ 191
        · by_cases d3 : p + 3 < s.data.toList.length ∧ 128 ≤ Tx.bt s.data.toList (p + 3) ∧ Tx.bt s.data.toList (p + 3) ≤ 191
          ·
            have e : Tx.chr (s.data.toList.drop p) = 4 := by
              rw [hC]
              unfold Tx.chrN
              repeat' split
              all_goals first | rfl | omega
            rw [e]
            exact ch_fx_ttt s p w hs hp' (by simp only [wi]; exact decide_eq_false (by omega)) (by simp only [wi]; exact decide_eq_false (by omega)) (by simp only [wi]; exact decide_eq_false (by omega)) (by simp only [wi]; exact decide_eq_false (by omega)) (by simp only [wi]; exact decide_eq_false (by omega)) (by simp only [wi]; exact decide_eq_false (by omega)) (by simp only [wi]; exact decide_eq_false (by omega)) (by simp only [wi]; exact decide_eq_true (by omega)) (by simp only [wi]; exact decide_eq_true (by omega)) (by simp only [wi]; exact decide_eq_true (by omega)) (by simp only [wi]; exact decide_eq_true (by omega))
          ·
            have e : Tx.chr (s.data.toList.drop p) = 0 := by
              rw [hC]
              unfold Tx.chrN
              repeat' split
              all_goals first | rfl | omega
            rw [e]
            exact ch_fx_ttf s p w hs hp' (by simp only [wi]; exact decide_eq_false (by omega)) (by simp only [wi]; exact decide_eq_false (by omega)) (by simp only [wi]; exact decide_eq_false (by omega)) (by simp only [wi]; exact decide_eq_false (by omega)) (by simp only [wi]; exact decide_eq_false (by omega)) (by simp only [wi]; exact decide_eq_false (by omega)) (by simp only [wi]; exact decide_eq_false (by omega)) (by simp only [wi]; exact decide_eq_true (by omega)) (by simp only [wi]; exact decide_eq_true (by omega)) (by simp only [wi]; exact decide_eq_true (by omega)) (by simp only [wi]; exact decide_eq_false (by omega))
        ·
          have e : Tx.chr (s.data.toList.drop p) = 0 := by
            rw [hC]
            unfold Tx.chrN
            repeat' split
            all_goals first | rfl | omega
          rw [e]
          exact ch_fx_tf s p w hs hp' (by simp only [wi]; exact decide_eq_false (by omega)) (by simp only [wi]; exact decide_eq_false (by omega)) (by simp only [wi]; exact decide_eq_false (by omega)) (by simp only [wi]; exact decide_eq_false (by omega)) (by simp only [wi]; exact decide_eq_false (by omega)) (by simp only [wi]; exact decide_eq_false (by omega)) (by simp only [wi]; exact decide_eq_false (by omega)) (by simp only [wi]; exact decide_eq_true (by omega)) (by simp only [wi]; exact decide_eq_true (by omega)) (by simp only [wi]; exact decide_eq_false (by omega))
      ·
        have e : Tx.chr (s.data.toList.drop p) = 0 := by
          rw [hC]
          unfold Tx.chrN
          repeat' split
          all_goals first | rfl | omega
        rw [e]
        exact ch_fx_f s p w hs hp' (by simp only [wi]; exact decide_eq_false (by omega)) (by simp only [wi]; exact decide_eq_false (by omega)) (by simp only [wi]; exact decide_eq_false (by omega)) (by simp only [wi]; exact decide_eq_false (by omega)) (by simp only [wi]; exact decide_eq_false (by omega)) (by simp only [wi]; exact decide_eq_false (by omega)) (by simp only [wi]; exact decide_eq_false (by omega)) (by simp only [wi]; exact decide_eq_true (by omega)) (by simp only [wi]; exact decide_eq_false (by omega))
    have e : Tx.chr (s.data.toList.drop p) = 0 := by
      rw [hC]
      unfold Tx.chrN
      repeat' split
      all_goals first | rfl | omega
    rw [e]
    exact ch_none s p w hs hp' (by simp only [wi]; exact decide_eq_false (by omega)) (by simp only [wi]; exact decide_eq_false (by omega)) (by simp only [wi]; exact decide_eq_false (by omega)) (by simp only [wi]; exact decide_eq_false (by omega)) (by simp only [wi]; exact decide_eq_false (by omega)) (by simp only [wi]; exact decide_eq_false (by omega)) (by simp only [wi]; exact decide_eq_false (by omega)) (by simp only [wi]; exact decide_eq_false (by omega))
  · have e : Tx.chr (s.data.toList.drop p) = 0 := by rw [List.drop_of_length_le (by omega)]; rfl
    rw [e]
    exact ch_none s p w hs hp' (by simp only [wi]; exact decide_eq_false (by omega)) (by simp only [wi]; exact decide_eq_false (by omega)) (by simp only [wi]; exact decide_eq_false (by omega)) (by simp only [wi]; exact decide_eq_false (by omega)) (by simp only [wi]; exact decide_eq_false (by omega)) (by simp only [wi]; exact decide_eq_false (by omega)) (by simp only [wi]; exact decide_eq_false (by omega)) (by simp only [wi]; exact decide_eq_false (by omega))
end Go.Proofs.YtmcekhgmmocajaaDoor
