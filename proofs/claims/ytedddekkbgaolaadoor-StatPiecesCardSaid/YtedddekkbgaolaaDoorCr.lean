/- vergerlaw01's pick, char, spoil. -/
import Derived.Test.YtedddekkbgaolaaDoorKn
import Derived.Test.YtedddekkbgaolaaDoorMd
namespace Go.Proofs.YtedddekkbgaolaaDoor
open Go.RowKit Me

def pickN (c : Int) (n : Nat) : Nat := (if c < 0 then -(c + 1) else c).toNat % n
theorem pick_any (c : Int) (n : Nat) (w : World) (h1 : -9223372036854775808 ≤ c) (h2 : c ≤ 9223372036854775807) (h0 : 0 < n) (hn : n ≤ 4611686018427387904) :
    Calls Tryd.prog 18 #[.int .i64 c, .int .i64 (n : Int)] w fun e w' => e = .returned (.int .i64 (pickN c n : Int)) ∧ w = w' := by
  have hb : ((n : Int) == 0) = false := by rw [beq_eq_false_iff_ne]; omega
  by_cases hc : c < 0
  · have HC := Lib.hid (show (pickN c n : Int) = -((c + 1).tmod (n : Int)) by
      unfold pickN
      rw [if_pos hc, ← Int.neg_tmod]
      obtain ⟨m, hm⟩ : ∃ m : Nat, -(c + 1) = (m : Int) := ⟨(-(c + 1)).toNat, by omega⟩
      rw [hm, Int.tmod_eq_emod_of_nonneg (by omega)]
      simp)
    go_enter Tryd.func18, Tryd.ntmps18
    go_wp2_with fail
    go_ret
    exact ⟨by rw [HC.out]; rfl, rfl⟩
  · have HC := Lib.hid (show (pickN c n : Int) = c % (n : Int) by
      unfold pickN
      rw [if_neg hc]
      obtain ⟨m, hm⟩ : ∃ m : Nat, c = (m : Int) := ⟨c.toNat, by omega⟩
      rw [hm]
      simp)
    have hc' : 0 ≤ c := by omega
    go_enter Tryd.func18, Tryd.ntmps18
    go_wp2_with fail
    go_ret
    refine ⟨?_, rfl⟩
    rw [HC.out]
    first | rfl | (rw [← Int.tmod_eq_emod_of_nonneg hc']; rfl)
theorem conv_new (w : World) (l : List UInt8) (row : Array Value) (n : Nat) (hn : l.length = n) (hr : row = (l.map byteV).toArray) :
    (convert 43 9 (.slice (some ⟨w.heap.size, 0, none⟩) n n)).run Tryd.prog (w.alloc (.cells row 5)) = .ok (.string ⟨l.toArray⟩) (w.alloc (.cells row 5)) := by
  subst hr
  subst hn
  refine conv_bytes l.length l fun j b hj => ?_
  have := cells_new w (l.map byteV) 5 j (byteV b) (by simp [hj])
  rw [Addr.add_lit] at this
  exact this
theorem byteV_of {x : Nat} (h : x < 256) : byteV (UInt8.ofNat x) = .int .u8 (x : Int) := by
  unfold byteV
  rw [Tx.toNat_ofNat h]
set_option maxRecDepth 100000 in
theorem char_one (n : Nat) (w : World) (h1 : n < 128) :
    Calls Tryd.prog 19 #[.int .i64 (n : Int)] w fun e w' => e = .returned (.string ⟨(Tx.charL n).toArray⟩) ∧ Mods [] w w' := by
  have hL : Tx.charL n = [UInt8.ofNat n] := by unfold Tx.charL; rw [if_pos (by omega)]
  have hcv := conv_new w (Tx.charL n) #[.int .u8 (n : Int)] 1 (by rw [hL]; rfl) (by
    rw [hL]
    simp only [List.map_cons, List.map_nil, byteV_of (show n < 256 by omega)] <;> rfl)
  clear hL
  generalize (⟨(Tx.charL n).toArray⟩ : ByteArray) = S at *
  have k2 : (n : Int) < 128 := by omega
  have k1 : (0 : Int) ≤ n := by omega
  clear h1
  generalize (n : Int) = x at *
  go_enter Tryd.func19, Tryd.ntmps19
  go_wp2_with fail
  go_ret
  exact ⟨rfl, (Mods.refl _ _).alloc _⟩
set_option maxRecDepth 100000 in
theorem char_two (n : Nat) (w : World) (h1 : 128 ≤ n) (h2 : n < 2048) :
    Calls Tryd.prog 19 #[.int .i64 (n : Int)] w fun e w' => e = .returned (.string ⟨(Tx.charL n).toArray⟩) ∧ Mods [] w w' := by
  have hL : Tx.charL n = [UInt8.ofNat (192 + n / 64), UInt8.ofNat (128 + n % 64)] := by unfold Tx.charL; rw [if_neg (by omega), if_pos (by omega)]
  have hcv := conv_new w (Tx.charL n) #[.int .u8 (192 + (n : Int) / 64), .int .u8 (128 + (n : Int) % 64)] 2 (by rw [hL]; rfl) (by
    rw [hL]
    simp only [List.map_cons, List.map_nil, byteV_of (show (192 + n / 64) < 256 by omega), byteV_of (show (128 + n % 64) < 256 by omega)] <;> rfl)
  clear hL
  generalize (⟨(Tx.charL n).toArray⟩ : ByteArray) = S at *
  have k1 : (128 : Int) ≤ n := by omega
  have k2 : (n : Int) < 2048 := by omega
  clear h1 h2
  generalize (n : Int) = x at *
  go_enter Tryd.func19, Tryd.ntmps19
  go_wp2_with fail
  go_ret
  exact ⟨rfl, (Mods.refl _ _).alloc _⟩
set_option maxRecDepth 100000 in
theorem char_three (n : Nat) (w : World) (h1 : 2048 ≤ n) (h2 : n < 65536) :
    Calls Tryd.prog 19 #[.int .i64 (n : Int)] w fun e w' => e = .returned (.string ⟨(Tx.charL n).toArray⟩) ∧ Mods [] w w' := by
  have hL : Tx.charL n = [UInt8.ofNat (224 + n / 4096), UInt8.ofNat (128 + n / 64 % 64), UInt8.ofNat (128 + n % 64)] := by unfold Tx.charL; rw [if_neg (by omega), if_neg (by omega), if_pos (by omega)]
  have hcv := conv_new w (Tx.charL n) #[.int .u8 (224 + (n : Int) / 4096), .int .u8 (128 + (n : Int) / 64 % 64), .int .u8 (128 + (n : Int) % 64)] 3 (by rw [hL]; rfl) (by
    rw [hL]
    simp only [List.map_cons, List.map_nil, byteV_of (show (224 + n / 4096) < 256 by omega), byteV_of (show (128 + n / 64 % 64) < 256 by omega), byteV_of (show (128 + n % 64) < 256 by omega)] <;> rfl)
  clear hL
  generalize (⟨(Tx.charL n).toArray⟩ : ByteArray) = S at *
  have k1 : (2048 : Int) ≤ n := by omega
  have k2 : (n : Int) < 65536 := by omega
  clear h1 h2
  generalize (n : Int) = x at *
  go_enter Tryd.func19, Tryd.ntmps19
  go_wp2_with fail
  go_ret
  exact ⟨rfl, (Mods.refl _ _).alloc _⟩
set_option maxRecDepth 100000 in
theorem char_four (n : Nat) (w : World) (h1 : 65536 ≤ n) (h2 : n ≤ 1114111) :
    Calls Tryd.prog 19 #[.int .i64 (n : Int)] w fun e w' => e = .returned (.string ⟨(Tx.charL n).toArray⟩) ∧ Mods [] w w' := by
  have hL : Tx.charL n = [UInt8.ofNat (240 + n / 262144), UInt8.ofNat (128 + n / 4096 % 64), UInt8.ofNat (128 + n / 64 % 64), UInt8.ofNat (128 + n % 64)] := by unfold Tx.charL; rw [if_neg (by omega), if_neg (by omega), if_neg (by omega)]
  have hcv := conv_new w (Tx.charL n) #[.int .u8 (240 + (n : Int) / 262144), .int .u8 (128 + (n : Int) / 4096 % 64), .int .u8 (128 + (n : Int) / 64 % 64), .int .u8 (128 + (n : Int) % 64)] 4 (by rw [hL]; rfl) (by
    rw [hL]
    simp only [List.map_cons, List.map_nil, byteV_of (show (240 + n / 262144) < 256 by omega), byteV_of (show (128 + n / 4096 % 64) < 256 by omega), byteV_of (show (128 + n / 64 % 64) < 256 by omega), byteV_of (show (128 + n % 64) < 256 by omega)] <;> rfl)
  clear hL
  generalize (⟨(Tx.charL n).toArray⟩ : ByteArray) = S at *
  have k1 : (65536 : Int) ≤ n := by omega
  have k2 : (n : Int) ≤ 1114111 := by omega
  clear h1 h2
  generalize (n : Int) = x at *
  go_enter Tryd.func19, Tryd.ntmps19
  go_wp2_with fail
  go_ret
  exact ⟨rfl, (Mods.refl _ _).alloc _⟩
theorem char_code (n : Nat) (w : World) (h : n ≤ 1114111) : Calls Tryd.prog 19 #[.int .i64 (n : Int)] w fun e w' => e = .returned (.string ⟨(Tx.charL n).toArray⟩) ∧ Mods [] w w' := by
  by_cases h1 : n < 128
  · exact char_one n w h1
  · by_cases h2 : n < 2048
    · exact char_two n w (by omega) h2
    · by_cases h3 : n < 65536
      · exact char_three n w (by omega) h3
      · exact char_four n w (by omega) h
set_option maxRecDepth 100000 in
set_option maxHeartbeats 1000000 in
theorem spoil_any (c : Int) (w : World) (h1 : -9223372036854775808 ≤ c) (h2 : c ≤ 9223372036854775807) :
    Calls Tryd.prog 20 #[.int .i64 c] w fun e w' => e = .returned (.string ⟨(Tx.spoilL (pickN c 12)).toArray⟩) ∧ w = w' := by
  have HP := Lib.hid (pick_any c 12 w h1 h2 (by omega) (by omega))
  have hk : pickN c 12 < 12 := by unfold pickN; exact Nat.mod_lt _ (by omega)
  generalize pickN c 12 = k at *
  match k, hk with
  | 0, _ =>
    go_enter Tryd.func20, Tryd.ntmps20
    go_wp2_with fail
    refine HP.out.mono ?_; rintro e w1 ⟨rfl, rfl⟩
    go_wp2_with fail
    go_ret
    exact ⟨rfl, rfl⟩
  | 1, _ =>
    go_enter Tryd.func20, Tryd.ntmps20
    go_wp2_with fail
    refine HP.out.mono ?_; rintro e w1 ⟨rfl, rfl⟩
    go_wp2_with fail
    go_ret
    exact ⟨rfl, rfl⟩
  | 2, _ =>
    go_enter Tryd.func20, Tryd.ntmps20
    go_wp2_with fail
    refine HP.out.mono ?_; rintro e w1 ⟨rfl, rfl⟩
    go_wp2_with fail
    go_ret
    exact ⟨rfl, rfl⟩
  | 3, _ =>
    go_enter Tryd.func20, Tryd.ntmps20
    go_wp2_with fail
    refine HP.out.mono ?_; rintro e w1 ⟨rfl, rfl⟩
    go_wp2_with fail
    go_ret
    exact ⟨rfl, rfl⟩
  | 4, _ =>
    go_enter Tryd.func20, Tryd.ntmps20
    go_wp2_with fail
    refine HP.out.mono ?_; rintro e w1 ⟨rfl, rfl⟩
    go_wp2_with fail
    go_ret
    exact ⟨rfl, rfl⟩
  | 5, _ =>
    go_enter Tryd.func20, Tryd.ntmps20
    go_wp2_with fail
    refine HP.out.mono ?_; rintro e w1 ⟨rfl, rfl⟩
    go_wp2_with fail
    go_ret
    exact ⟨rfl, rfl⟩
  | 6, _ =>
    go_enter Tryd.func20, Tryd.ntmps20
    go_wp2_with fail
    refine HP.out.mono ?_; rintro e w1 ⟨rfl, rfl⟩
    go_wp2_with fail
    go_ret
    exact ⟨rfl, rfl⟩
  | 7, _ =>
    go_enter Tryd.func20, Tryd.ntmps20
    go_wp2_with fail
    refine HP.out.mono ?_; rintro e w1 ⟨rfl, rfl⟩
    go_wp2_with fail
    go_ret
    exact ⟨rfl, rfl⟩
  | 8, _ =>
    go_enter Tryd.func20, Tryd.ntmps20
    go_wp2_with fail
    refine HP.out.mono ?_; rintro e w1 ⟨rfl, rfl⟩
    go_wp2_with fail
    go_ret
    exact ⟨rfl, rfl⟩
  | 9, _ =>
    go_enter Tryd.func20, Tryd.ntmps20
    go_wp2_with fail
    refine HP.out.mono ?_; rintro e w1 ⟨rfl, rfl⟩
    go_wp2_with fail
    go_ret
    exact ⟨rfl, rfl⟩
  | 10, _ =>
    go_enter Tryd.func20, Tryd.ntmps20
    go_wp2_with fail
    refine HP.out.mono ?_; rintro e w1 ⟨rfl, rfl⟩
    go_wp2_with fail
    go_ret
    exact ⟨rfl, rfl⟩
  | 11, _ =>
    go_enter Tryd.func20, Tryd.ntmps20
    go_wp2_with fail
    refine HP.out.mono ?_; rintro e w1 ⟨rfl, rfl⟩
    go_wp2_with fail
    go_ret
    exact ⟨rfl, rfl⟩
end Go.Proofs.YtedddekkbgaolaaDoor
