/- The reference's texts: within, Character, Bad, Good, Cut. | The reference's Character, of every text and every place. | The reference's Bad and Good. -/
import Derived.Test.YtmcekhgmmocajaaGreatDoorKn
namespace Go.Proofs.YtmcekhgmmocajaaGreatDoor
open Go.RowKit Me

def wi (l : List UInt8) (p lo hi : Nat) : Bool := decide (p < l.length ∧ lo ≤ Tx.bt l p ∧ Tx.bt l p ≤ hi)

theorem str_bt (s : ByteArray) (p : Nat) (h : p < s.size) : (s[p]'h).toNat = Tx.bt s.data.toList p := by
  rw [Tx.bt_at (by rw [size_list]; exact h)]
  simp [ByteArray.getElem_eq_getElem_data]
theorem wi_in {s : ByteArray} {p lo hi : Nat} (h : p < s.size) : wi s.data.toList p lo hi = decide (lo ≤ (s[p]'h).toNat ∧ (s[p]'h).toNat ≤ hi) := by
  unfold wi
  rw [str_bt s p h, size_list]
  simp only [h, true_and]

set_option maxRecDepth 100000 in
theorem within_any (s : ByteArray) (p lo hi : Nat) (w : World) (hs : s.size ≤ 1099511627776) (hp : p ≤ 1099511627779) (_hlo : lo < 256) (_hhi : hi < 256) :
    Calls Tryz.prog 137 #[.string s, .int .i64 (p : Int), .int .u8 (lo : Int), .int .u8 (hi : Int)] w fun e w' => e = .returned (.bool (wi s.data.toList p lo hi)) ∧ w = w' := by
  have _h1 := hs
  have _h2 := hp
  by_cases h : p < s.size
  · rw [wi_in h]
    go_enter Tryz.func137, Tryz.ntmps137
    go_wp2_with fail
    · rename_i h1
      go_ret
      refine ⟨?_, rfl⟩
      simp [h1]
    · rename_i h1
      go_ret
      refine ⟨?_, rfl⟩
      simp [h1]
  · have e : wi s.data.toList p lo hi = false := by unfold wi; rw [size_list]; simp [h]
    rw [e]
    clear e
    go_enter Tryz.func137, Tryz.ntmps137
    go_wp2_with fail
    go_ret
    exact ⟨rfl, rfl⟩
theorem within_is {s : ByteArray} {p lo hi : Nat} {w : World} {b : Bool} (h : wi s.data.toList p lo hi = b) (hs : s.size ≤ 1099511627776) (hp : p ≤ 1099511627779) {q x y : Int} (hq : q = (p : Int)) (hx : x = (lo : Int)) (hy : y = (hi : Int)) (hlo : lo < 256) (hhi : hi < 256) :
    Calls Tryz.prog 137 #[.string s, .int .i64 q, .int .u8 x, .int .u8 y] w fun e w' => e = .returned (.bool b) ∧ w = w' := by
  subst hq hx hy h
  exact within_any s p lo hi w hs hp hlo hhi
set_option maxHeartbeats 1000000 in
theorem ch_one (s : ByteArray) (p : Nat) (w : World) (hs : s.size ≤ 1099511627776) (hp : p ≤ 1099511627776) (h0 : wi s.data.toList p 0 127 = true) :
    Calls Tryz.prog 116 #[.string s, .int .i64 (p : Int)] w fun e w' => e = .returned (.int .i64 1) ∧ w = w' := by
  have H0 := Lib.hid h0
  clear h0
  have s1 : IntKind.i64.wrap ((p : Int) + 1) = (p : Int) + 1 := IntWalk.i64_in _ (by omega)
  have s2 : IntKind.i64.wrap ((p : Int) + 2) = (p : Int) + 2 := IntWalk.i64_in _ (by omega)
  have s3 : IntKind.i64.wrap ((p : Int) + 3) = (p : Int) + 3 := IntWalk.i64_in _ (by omega)
  go_enter Tryz.func116, Tryz.ntmps116
  go_wp2_with fail
  refine (within_is H0.out hs (by omega) (by omega) rfl rfl (by omega) (by omega)).mono ?_; rintro e w1 ⟨rfl, rfl⟩
  go_wp2_with fail
  go_ret
  exact ⟨rfl, rfl⟩
set_option maxHeartbeats 1000000 in
theorem ch_two (s : ByteArray) (p : Nat) (w : World) (hs : s.size ≤ 1099511627776) (hp : p ≤ 1099511627776) (h0 : wi s.data.toList p 0 127 = false) (h1 : wi s.data.toList p 194 223 = true) (h2 : wi s.data.toList (p + 1) 128 191 = true) :
    Calls Tryz.prog 116 #[.string s, .int .i64 (p : Int)] w fun e w' => e = .returned (.int .i64 2) ∧ w = w' := by
  have H0 := Lib.hid h0
  have H1 := Lib.hid h1
  have H2 := Lib.hid h2
  clear h0 h1 h2
  have s1 : IntKind.i64.wrap ((p : Int) + 1) = (p : Int) + 1 := IntWalk.i64_in _ (by omega)
  have s2 : IntKind.i64.wrap ((p : Int) + 2) = (p : Int) + 2 := IntWalk.i64_in _ (by omega)
  have s3 : IntKind.i64.wrap ((p : Int) + 3) = (p : Int) + 3 := IntWalk.i64_in _ (by omega)
  go_enter Tryz.func116, Tryz.ntmps116
  go_wp2_with fail
  refine (within_is H0.out hs (by omega) (by omega) rfl rfl (by omega) (by omega)).mono ?_; rintro e w1 ⟨rfl, rfl⟩
  go_wp2_with fail
  refine (within_is H1.out hs (by omega) (by omega) rfl rfl (by omega) (by omega)).mono ?_; rintro e w1 ⟨rfl, rfl⟩
  go_wp2_with fail
  refine (within_is H2.out hs (by omega) (by omega) rfl rfl (by omega) (by omega)).mono ?_; rintro e w1 ⟨rfl, rfl⟩
  go_wp2_with fail
  go_ret
  exact ⟨rfl, rfl⟩
set_option maxHeartbeats 1000000 in
theorem ch_twoX (s : ByteArray) (p : Nat) (w : World) (hs : s.size ≤ 1099511627776) (hp : p ≤ 1099511627776) (h0 : wi s.data.toList p 0 127 = false) (h1 : wi s.data.toList p 194 223 = true) (h2 : wi s.data.toList (p + 1) 128 191 = false) (h3 : wi s.data.toList p 224 224 = false) (h4 : wi s.data.toList p 237 237 = false) (h5 : wi s.data.toList p 224 239 = false) (h6 : wi s.data.toList p 240 240 = false) (h7 : wi s.data.toList p 244 244 = false) (h8 : wi s.data.toList p 240 244 = false) :
    Calls Tryz.prog 116 #[.string s, .int .i64 (p : Int)] w fun e w' => e = .returned (.int .i64 0) ∧ w = w' := by
  have H0 := Lib.hid h0
  have H1 := Lib.hid h1
  have H2 := Lib.hid h2
  have H3 := Lib.hid h3
  have H4 := Lib.hid h4
  have H5 := Lib.hid h5
  have H6 := Lib.hid h6
  have H7 := Lib.hid h7
  have H8 := Lib.hid h8
  clear h0 h1 h2 h3 h4 h5 h6 h7 h8
  have s1 : IntKind.i64.wrap ((p : Int) + 1) = (p : Int) + 1 := IntWalk.i64_in _ (by omega)
  have s2 : IntKind.i64.wrap ((p : Int) + 2) = (p : Int) + 2 := IntWalk.i64_in _ (by omega)
  have s3 : IntKind.i64.wrap ((p : Int) + 3) = (p : Int) + 3 := IntWalk.i64_in _ (by omega)
  go_enter Tryz.func116, Tryz.ntmps116
  go_wp2_with fail
  refine (within_is H0.out hs (by omega) (by omega) rfl rfl (by omega) (by omega)).mono ?_; rintro e w1 ⟨rfl, rfl⟩
  go_wp2_with fail
  refine (within_is H1.out hs (by omega) (by omega) rfl rfl (by omega) (by omega)).mono ?_; rintro e w1 ⟨rfl, rfl⟩
  go_wp2_with fail
  refine (within_is H2.out hs (by omega) (by omega) rfl rfl (by omega) (by omega)).mono ?_; rintro e w1 ⟨rfl, rfl⟩
  go_wp2_with fail
  refine (within_is H3.out hs (by omega) (by omega) rfl rfl (by omega) (by omega)).mono ?_; rintro e w1 ⟨rfl, rfl⟩
  go_wp2_with fail
  refine (within_is H4.out hs (by omega) (by omega) rfl rfl (by omega) (by omega)).mono ?_; rintro e w1 ⟨rfl, rfl⟩
  go_wp2_with fail
  refine (within_is H5.out hs (by omega) (by omega) rfl rfl (by omega) (by omega)).mono ?_; rintro e w1 ⟨rfl, rfl⟩
  go_wp2_with fail
  refine (within_is H6.out hs (by omega) (by omega) rfl rfl (by omega) (by omega)).mono ?_; rintro e w1 ⟨rfl, rfl⟩
  go_wp2_with fail
  refine (within_is H7.out hs (by omega) (by omega) rfl rfl (by omega) (by omega)).mono ?_; rintro e w1 ⟨rfl, rfl⟩
  go_wp2_with fail
  refine (within_is H8.out hs (by omega) (by omega) rfl rfl (by omega) (by omega)).mono ?_; rintro e w1 ⟨rfl, rfl⟩
  go_wp2_with fail
  go_ret
  exact ⟨rfl, rfl⟩
set_option maxHeartbeats 1000000 in
theorem ch_e0_tt (s : ByteArray) (p : Nat) (w : World) (hs : s.size ≤ 1099511627776) (hp : p ≤ 1099511627776) (h0 : wi s.data.toList p 0 127 = false) (h1 : wi s.data.toList p 194 223 = false) (h2 : wi s.data.toList p 224 224 = true) (h3 : wi s.data.toList p 237 237 = false) (h4 : wi s.data.toList p 224 239 = true) (h5 : wi s.data.toList (p + 1) 160 191 = true) (h6 : wi s.data.toList (p + 2) 128 191 = true) :
    Calls Tryz.prog 116 #[.string s, .int .i64 (p : Int)] w fun e w' => e = .returned (.int .i64 3) ∧ w = w' := by
  have H0 := Lib.hid h0
  have H1 := Lib.hid h1
  have H2 := Lib.hid h2
  have H3 := Lib.hid h3
  have H4 := Lib.hid h4
  have H5 := Lib.hid h5
  have H6 := Lib.hid h6
  clear h0 h1 h2 h3 h4 h5 h6
  have s1 : IntKind.i64.wrap ((p : Int) + 1) = (p : Int) + 1 := IntWalk.i64_in _ (by omega)
  have s2 : IntKind.i64.wrap ((p : Int) + 2) = (p : Int) + 2 := IntWalk.i64_in _ (by omega)
  have s3 : IntKind.i64.wrap ((p : Int) + 3) = (p : Int) + 3 := IntWalk.i64_in _ (by omega)
  go_enter Tryz.func116, Tryz.ntmps116
  go_wp2_with fail
  refine (within_is H0.out hs (by omega) (by omega) rfl rfl (by omega) (by omega)).mono ?_; rintro e w1 ⟨rfl, rfl⟩
  go_wp2_with fail
  refine (within_is H1.out hs (by omega) (by omega) rfl rfl (by omega) (by omega)).mono ?_; rintro e w1 ⟨rfl, rfl⟩
  go_wp2_with fail
  refine (within_is H2.out hs (by omega) (by omega) rfl rfl (by omega) (by omega)).mono ?_; rintro e w1 ⟨rfl, rfl⟩
  go_wp2_with fail
  refine (within_is H3.out hs (by omega) (by omega) rfl rfl (by omega) (by omega)).mono ?_; rintro e w1 ⟨rfl, rfl⟩
  go_wp2_with fail
  refine (within_is H4.out hs (by omega) (by omega) rfl rfl (by omega) (by omega)).mono ?_; rintro e w1 ⟨rfl, rfl⟩
  go_wp2_with fail
  refine (within_is H5.out hs (by omega) (by omega) rfl rfl (by omega) (by omega)).mono ?_; rintro e w1 ⟨rfl, rfl⟩
  go_wp2_with fail
  refine (within_is H6.out hs (by omega) (by omega) rfl rfl (by omega) (by omega)).mono ?_; rintro e w1 ⟨rfl, rfl⟩
  go_wp2_with fail
  go_ret
  exact ⟨rfl, rfl⟩
set_option maxHeartbeats 1000000 in
theorem ch_e0_tf (s : ByteArray) (p : Nat) (w : World) (hs : s.size ≤ 1099511627776) (hp : p ≤ 1099511627776) (h0 : wi s.data.toList p 0 127 = false) (h1 : wi s.data.toList p 194 223 = false) (h2 : wi s.data.toList p 224 224 = true) (h3 : wi s.data.toList p 237 237 = false) (h4 : wi s.data.toList p 224 239 = true) (h5 : wi s.data.toList (p + 1) 160 191 = true) (h6 : wi s.data.toList (p + 2) 128 191 = false) (h7 : wi s.data.toList p 240 240 = false) (h8 : wi s.data.toList p 244 244 = false) (h9 : wi s.data.toList p 240 244 = false) :
    Calls Tryz.prog 116 #[.string s, .int .i64 (p : Int)] w fun e w' => e = .returned (.int .i64 0) ∧ w = w' := by
  have H0 := Lib.hid h0
  have H1 := Lib.hid h1
  have H2 := Lib.hid h2
  have H3 := Lib.hid h3
  have H4 := Lib.hid h4
  have H5 := Lib.hid h5
  have H6 := Lib.hid h6
  have H7 := Lib.hid h7
  have H8 := Lib.hid h8
  have H9 := Lib.hid h9
  clear h0 h1 h2 h3 h4 h5 h6 h7 h8 h9
  have s1 : IntKind.i64.wrap ((p : Int) + 1) = (p : Int) + 1 := IntWalk.i64_in _ (by omega)
  have s2 : IntKind.i64.wrap ((p : Int) + 2) = (p : Int) + 2 := IntWalk.i64_in _ (by omega)
  have s3 : IntKind.i64.wrap ((p : Int) + 3) = (p : Int) + 3 := IntWalk.i64_in _ (by omega)
  go_enter Tryz.func116, Tryz.ntmps116
  go_wp2_with fail
  refine (within_is H0.out hs (by omega) (by omega) rfl rfl (by omega) (by omega)).mono ?_; rintro e w1 ⟨rfl, rfl⟩
  go_wp2_with fail
  refine (within_is H1.out hs (by omega) (by omega) rfl rfl (by omega) (by omega)).mono ?_; rintro e w1 ⟨rfl, rfl⟩
  go_wp2_with fail
  refine (within_is H2.out hs (by omega) (by omega) rfl rfl (by omega) (by omega)).mono ?_; rintro e w1 ⟨rfl, rfl⟩
  go_wp2_with fail
  refine (within_is H3.out hs (by omega) (by omega) rfl rfl (by omega) (by omega)).mono ?_; rintro e w1 ⟨rfl, rfl⟩
  go_wp2_with fail
  refine (within_is H4.out hs (by omega) (by omega) rfl rfl (by omega) (by omega)).mono ?_; rintro e w1 ⟨rfl, rfl⟩
  go_wp2_with fail
  refine (within_is H5.out hs (by omega) (by omega) rfl rfl (by omega) (by omega)).mono ?_; rintro e w1 ⟨rfl, rfl⟩
  go_wp2_with fail
  refine (within_is H6.out hs (by omega) (by omega) rfl rfl (by omega) (by omega)).mono ?_; rintro e w1 ⟨rfl, rfl⟩
  go_wp2_with fail
  refine (within_is H7.out hs (by omega) (by omega) rfl rfl (by omega) (by omega)).mono ?_; rintro e w1 ⟨rfl, rfl⟩
  go_wp2_with fail
  refine (within_is H8.out hs (by omega) (by omega) rfl rfl (by omega) (by omega)).mono ?_; rintro e w1 ⟨rfl, rfl⟩
  go_wp2_with fail
  refine (within_is H9.out hs (by omega) (by omega) rfl rfl (by omega) (by omega)).mono ?_; rintro e w1 ⟨rfl, rfl⟩
  go_wp2_with fail
  go_ret
  exact ⟨rfl, rfl⟩
set_option maxHeartbeats 1000000 in
theorem ch_e0_f (s : ByteArray) (p : Nat) (w : World) (hs : s.size ≤ 1099511627776) (hp : p ≤ 1099511627776) (h0 : wi s.data.toList p 0 127 = false) (h1 : wi s.data.toList p 194 223 = false) (h2 : wi s.data.toList p 224 224 = true) (h3 : wi s.data.toList p 237 237 = false) (h4 : wi s.data.toList p 224 239 = true) (h5 : wi s.data.toList (p + 1) 160 191 = false) (h6 : wi s.data.toList p 240 240 = false) (h7 : wi s.data.toList p 244 244 = false) (h8 : wi s.data.toList p 240 244 = false) :
    Calls Tryz.prog 116 #[.string s, .int .i64 (p : Int)] w fun e w' => e = .returned (.int .i64 0) ∧ w = w' := by
  have H0 := Lib.hid h0
  have H1 := Lib.hid h1
  have H2 := Lib.hid h2
  have H3 := Lib.hid h3
  have H4 := Lib.hid h4
  have H5 := Lib.hid h5
  have H6 := Lib.hid h6
  have H7 := Lib.hid h7
  have H8 := Lib.hid h8
  clear h0 h1 h2 h3 h4 h5 h6 h7 h8
  have s1 : IntKind.i64.wrap ((p : Int) + 1) = (p : Int) + 1 := IntWalk.i64_in _ (by omega)
  have s2 : IntKind.i64.wrap ((p : Int) + 2) = (p : Int) + 2 := IntWalk.i64_in _ (by omega)
  have s3 : IntKind.i64.wrap ((p : Int) + 3) = (p : Int) + 3 := IntWalk.i64_in _ (by omega)
  go_enter Tryz.func116, Tryz.ntmps116
  go_wp2_with fail
  refine (within_is H0.out hs (by omega) (by omega) rfl rfl (by omega) (by omega)).mono ?_; rintro e w1 ⟨rfl, rfl⟩
  go_wp2_with fail
  refine (within_is H1.out hs (by omega) (by omega) rfl rfl (by omega) (by omega)).mono ?_; rintro e w1 ⟨rfl, rfl⟩
  go_wp2_with fail
  refine (within_is H2.out hs (by omega) (by omega) rfl rfl (by omega) (by omega)).mono ?_; rintro e w1 ⟨rfl, rfl⟩
  go_wp2_with fail
  refine (within_is H3.out hs (by omega) (by omega) rfl rfl (by omega) (by omega)).mono ?_; rintro e w1 ⟨rfl, rfl⟩
  go_wp2_with fail
  refine (within_is H4.out hs (by omega) (by omega) rfl rfl (by omega) (by omega)).mono ?_; rintro e w1 ⟨rfl, rfl⟩
  go_wp2_with fail
  refine (within_is H5.out hs (by omega) (by omega) rfl rfl (by omega) (by omega)).mono ?_; rintro e w1 ⟨rfl, rfl⟩
  go_wp2_with fail
  refine (within_is H6.out hs (by omega) (by omega) rfl rfl (by omega) (by omega)).mono ?_; rintro e w1 ⟨rfl, rfl⟩
  go_wp2_with fail
  refine (within_is H7.out hs (by omega) (by omega) rfl rfl (by omega) (by omega)).mono ?_; rintro e w1 ⟨rfl, rfl⟩
  go_wp2_with fail
  refine (within_is H8.out hs (by omega) (by omega) rfl rfl (by omega) (by omega)).mono ?_; rintro e w1 ⟨rfl, rfl⟩
  go_wp2_with fail
  go_ret
  exact ⟨rfl, rfl⟩
set_option maxHeartbeats 1000000 in
theorem ch_ed_tt (s : ByteArray) (p : Nat) (w : World) (hs : s.size ≤ 1099511627776) (hp : p ≤ 1099511627776) (h0 : wi s.data.toList p 0 127 = false) (h1 : wi s.data.toList p 194 223 = false) (h2 : wi s.data.toList p 224 224 = false) (h3 : wi s.data.toList p 237 237 = true) (h4 : wi s.data.toList p 224 239 = true) (h5 : wi s.data.toList (p + 1) 128 159 = true) (h6 : wi s.data.toList (p + 2) 128 191 = true) :
    Calls Tryz.prog 116 #[.string s, .int .i64 (p : Int)] w fun e w' => e = .returned (.int .i64 3) ∧ w = w' := by
  have H0 := Lib.hid h0
  have H1 := Lib.hid h1
  have H2 := Lib.hid h2
  have H3 := Lib.hid h3
  have H4 := Lib.hid h4
  have H5 := Lib.hid h5
  have H6 := Lib.hid h6
  clear h0 h1 h2 h3 h4 h5 h6
  have s1 : IntKind.i64.wrap ((p : Int) + 1) = (p : Int) + 1 := IntWalk.i64_in _ (by omega)
  have s2 : IntKind.i64.wrap ((p : Int) + 2) = (p : Int) + 2 := IntWalk.i64_in _ (by omega)
  have s3 : IntKind.i64.wrap ((p : Int) + 3) = (p : Int) + 3 := IntWalk.i64_in _ (by omega)
  go_enter Tryz.func116, Tryz.ntmps116
  go_wp2_with fail
  refine (within_is H0.out hs (by omega) (by omega) rfl rfl (by omega) (by omega)).mono ?_; rintro e w1 ⟨rfl, rfl⟩
  go_wp2_with fail
  refine (within_is H1.out hs (by omega) (by omega) rfl rfl (by omega) (by omega)).mono ?_; rintro e w1 ⟨rfl, rfl⟩
  go_wp2_with fail
  refine (within_is H2.out hs (by omega) (by omega) rfl rfl (by omega) (by omega)).mono ?_; rintro e w1 ⟨rfl, rfl⟩
  go_wp2_with fail
  refine (within_is H3.out hs (by omega) (by omega) rfl rfl (by omega) (by omega)).mono ?_; rintro e w1 ⟨rfl, rfl⟩
  go_wp2_with fail
  refine (within_is H4.out hs (by omega) (by omega) rfl rfl (by omega) (by omega)).mono ?_; rintro e w1 ⟨rfl, rfl⟩
  go_wp2_with fail
  refine (within_is H5.out hs (by omega) (by omega) rfl rfl (by omega) (by omega)).mono ?_; rintro e w1 ⟨rfl, rfl⟩
  go_wp2_with fail
  refine (within_is H6.out hs (by omega) (by omega) rfl rfl (by omega) (by omega)).mono ?_; rintro e w1 ⟨rfl, rfl⟩
  go_wp2_with fail
  go_ret
  exact ⟨rfl, rfl⟩
set_option maxHeartbeats 1000000 in
theorem ch_ed_tf (s : ByteArray) (p : Nat) (w : World) (hs : s.size ≤ 1099511627776) (hp : p ≤ 1099511627776) (h0 : wi s.data.toList p 0 127 = false) (h1 : wi s.data.toList p 194 223 = false) (h2 : wi s.data.toList p 224 224 = false) (h3 : wi s.data.toList p 237 237 = true) (h4 : wi s.data.toList p 224 239 = true) (h5 : wi s.data.toList (p + 1) 128 159 = true) (h6 : wi s.data.toList (p + 2) 128 191 = false) (h7 : wi s.data.toList p 240 240 = false) (h8 : wi s.data.toList p 244 244 = false) (h9 : wi s.data.toList p 240 244 = false) :
    Calls Tryz.prog 116 #[.string s, .int .i64 (p : Int)] w fun e w' => e = .returned (.int .i64 0) ∧ w = w' := by
  have H0 := Lib.hid h0
  have H1 := Lib.hid h1
  have H2 := Lib.hid h2
  have H3 := Lib.hid h3
  have H4 := Lib.hid h4
  have H5 := Lib.hid h5
  have H6 := Lib.hid h6
  have H7 := Lib.hid h7
  have H8 := Lib.hid h8
  have H9 := Lib.hid h9
  clear h0 h1 h2 h3 h4 h5 h6 h7 h8 h9
  have s1 : IntKind.i64.wrap ((p : Int) + 1) = (p : Int) + 1 := IntWalk.i64_in _ (by omega)
  have s2 : IntKind.i64.wrap ((p : Int) + 2) = (p : Int) + 2 := IntWalk.i64_in _ (by omega)
  have s3 : IntKind.i64.wrap ((p : Int) + 3) = (p : Int) + 3 := IntWalk.i64_in _ (by omega)
  go_enter Tryz.func116, Tryz.ntmps116
  go_wp2_with fail
  refine (within_is H0.out hs (by omega) (by omega) rfl rfl (by omega) (by omega)).mono ?_; rintro e w1 ⟨rfl, rfl⟩
  go_wp2_with fail
  refine (within_is H1.out hs (by omega) (by omega) rfl rfl (by omega) (by omega)).mono ?_; rintro e w1 ⟨rfl, rfl⟩
  go_wp2_with fail
  refine (within_is H2.out hs (by omega) (by omega) rfl rfl (by omega) (by omega)).mono ?_; rintro e w1 ⟨rfl, rfl⟩
  go_wp2_with fail
  refine (within_is H3.out hs (by omega) (by omega) rfl rfl (by omega) (by omega)).mono ?_; rintro e w1 ⟨rfl, rfl⟩
  go_wp2_with fail
  refine (within_is H4.out hs (by omega) (by omega) rfl rfl (by omega) (by omega)).mono ?_; rintro e w1 ⟨rfl, rfl⟩
  go_wp2_with fail
  refine (within_is H5.out hs (by omega) (by omega) rfl rfl (by omega) (by omega)).mono ?_; rintro e w1 ⟨rfl, rfl⟩
  go_wp2_with fail
  refine (within_is H6.out hs (by omega) (by omega) rfl rfl (by omega) (by omega)).mono ?_; rintro e w1 ⟨rfl, rfl⟩
  go_wp2_with fail
  refine (within_is H7.out hs (by omega) (by omega) rfl rfl (by omega) (by omega)).mono ?_; rintro e w1 ⟨rfl, rfl⟩
  go_wp2_with fail
  refine (within_is H8.out hs (by omega) (by omega) rfl rfl (by omega) (by omega)).mono ?_; rintro e w1 ⟨rfl, rfl⟩
  go_wp2_with fail
  refine (within_is H9.out hs (by omega) (by omega) rfl rfl (by omega) (by omega)).mono ?_; rintro e w1 ⟨rfl, rfl⟩
  go_wp2_with fail
  go_ret
  exact ⟨rfl, rfl⟩
set_option maxHeartbeats 1000000 in
theorem ch_ed_f (s : ByteArray) (p : Nat) (w : World) (hs : s.size ≤ 1099511627776) (hp : p ≤ 1099511627776) (h0 : wi s.data.toList p 0 127 = false) (h1 : wi s.data.toList p 194 223 = false) (h2 : wi s.data.toList p 224 224 = false) (h3 : wi s.data.toList p 237 237 = true) (h4 : wi s.data.toList p 224 239 = true) (h5 : wi s.data.toList (p + 1) 128 159 = false) (h6 : wi s.data.toList p 240 240 = false) (h7 : wi s.data.toList p 244 244 = false) (h8 : wi s.data.toList p 240 244 = false) :
    Calls Tryz.prog 116 #[.string s, .int .i64 (p : Int)] w fun e w' => e = .returned (.int .i64 0) ∧ w = w' := by
  have H0 := Lib.hid h0
  have H1 := Lib.hid h1
  have H2 := Lib.hid h2
  have H3 := Lib.hid h3
  have H4 := Lib.hid h4
  have H5 := Lib.hid h5
  have H6 := Lib.hid h6
  have H7 := Lib.hid h7
  have H8 := Lib.hid h8
  clear h0 h1 h2 h3 h4 h5 h6 h7 h8
  have s1 : IntKind.i64.wrap ((p : Int) + 1) = (p : Int) + 1 := IntWalk.i64_in _ (by omega)
  have s2 : IntKind.i64.wrap ((p : Int) + 2) = (p : Int) + 2 := IntWalk.i64_in _ (by omega)
  have s3 : IntKind.i64.wrap ((p : Int) + 3) = (p : Int) + 3 := IntWalk.i64_in _ (by omega)
  go_enter Tryz.func116, Tryz.ntmps116
  go_wp2_with fail
  refine (within_is H0.out hs (by omega) (by omega) rfl rfl (by omega) (by omega)).mono ?_; rintro e w1 ⟨rfl, rfl⟩
  go_wp2_with fail
  refine (within_is H1.out hs (by omega) (by omega) rfl rfl (by omega) (by omega)).mono ?_; rintro e w1 ⟨rfl, rfl⟩
  go_wp2_with fail
  refine (within_is H2.out hs (by omega) (by omega) rfl rfl (by omega) (by omega)).mono ?_; rintro e w1 ⟨rfl, rfl⟩
  go_wp2_with fail
  refine (within_is H3.out hs (by omega) (by omega) rfl rfl (by omega) (by omega)).mono ?_; rintro e w1 ⟨rfl, rfl⟩
  go_wp2_with fail
  refine (within_is H4.out hs (by omega) (by omega) rfl rfl (by omega) (by omega)).mono ?_; rintro e w1 ⟨rfl, rfl⟩
  go_wp2_with fail
  refine (within_is H5.out hs (by omega) (by omega) rfl rfl (by omega) (by omega)).mono ?_; rintro e w1 ⟨rfl, rfl⟩
  go_wp2_with fail
  refine (within_is H6.out hs (by omega) (by omega) rfl rfl (by omega) (by omega)).mono ?_; rintro e w1 ⟨rfl, rfl⟩
  go_wp2_with fail
  refine (within_is H7.out hs (by omega) (by omega) rfl rfl (by omega) (by omega)).mono ?_; rintro e w1 ⟨rfl, rfl⟩
  go_wp2_with fail
  refine (within_is H8.out hs (by omega) (by omega) rfl rfl (by omega) (by omega)).mono ?_; rintro e w1 ⟨rfl, rfl⟩
  go_wp2_with fail
  go_ret
  exact ⟨rfl, rfl⟩
set_option maxHeartbeats 1000000 in
theorem ch_ex_tt (s : ByteArray) (p : Nat) (w : World) (hs : s.size ≤ 1099511627776) (hp : p ≤ 1099511627776) (h0 : wi s.data.toList p 0 127 = false) (h1 : wi s.data.toList p 194 223 = false) (h2 : wi s.data.toList p 224 224 = false) (h3 : wi s.data.toList p 237 237 = false) (h4 : wi s.data.toList p 224 239 = true) (h5 : wi s.data.toList (p + 1) 128 191 = true) (h6 : wi s.data.toList (p + 2) 128 191 = true) :
    Calls Tryz.prog 116 #[.string s, .int .i64 (p : Int)] w fun e w' => e = .returned (.int .i64 3) ∧ w = w' := by
  have H0 := Lib.hid h0
  have H1 := Lib.hid h1
  have H2 := Lib.hid h2
  have H3 := Lib.hid h3
  have H4 := Lib.hid h4
  have H5 := Lib.hid h5
  have H6 := Lib.hid h6
  clear h0 h1 h2 h3 h4 h5 h6
  have s1 : IntKind.i64.wrap ((p : Int) + 1) = (p : Int) + 1 := IntWalk.i64_in _ (by omega)
  have s2 : IntKind.i64.wrap ((p : Int) + 2) = (p : Int) + 2 := IntWalk.i64_in _ (by omega)
  have s3 : IntKind.i64.wrap ((p : Int) + 3) = (p : Int) + 3 := IntWalk.i64_in _ (by omega)
  go_enter Tryz.func116, Tryz.ntmps116
  go_wp2_with fail
  refine (within_is H0.out hs (by omega) (by omega) rfl rfl (by omega) (by omega)).mono ?_; rintro e w1 ⟨rfl, rfl⟩
  go_wp2_with fail
  refine (within_is H1.out hs (by omega) (by omega) rfl rfl (by omega) (by omega)).mono ?_; rintro e w1 ⟨rfl, rfl⟩
  go_wp2_with fail
  refine (within_is H2.out hs (by omega) (by omega) rfl rfl (by omega) (by omega)).mono ?_; rintro e w1 ⟨rfl, rfl⟩
  go_wp2_with fail
  refine (within_is H3.out hs (by omega) (by omega) rfl rfl (by omega) (by omega)).mono ?_; rintro e w1 ⟨rfl, rfl⟩
  go_wp2_with fail
  refine (within_is H4.out hs (by omega) (by omega) rfl rfl (by omega) (by omega)).mono ?_; rintro e w1 ⟨rfl, rfl⟩
  go_wp2_with fail
  refine (within_is H5.out hs (by omega) (by omega) rfl rfl (by omega) (by omega)).mono ?_; rintro e w1 ⟨rfl, rfl⟩
  go_wp2_with fail
  refine (within_is H6.out hs (by omega) (by omega) rfl rfl (by omega) (by omega)).mono ?_; rintro e w1 ⟨rfl, rfl⟩
  go_wp2_with fail
  go_ret
  exact ⟨rfl, rfl⟩
set_option maxHeartbeats 1000000 in
theorem ch_ex_tf (s : ByteArray) (p : Nat) (w : World) (hs : s.size ≤ 1099511627776) (hp : p ≤ 1099511627776) (h0 : wi s.data.toList p 0 127 = false) (h1 : wi s.data.toList p 194 223 = false) (h2 : wi s.data.toList p 224 224 = false) (h3 : wi s.data.toList p 237 237 = false) (h4 : wi s.data.toList p 224 239 = true) (h5 : wi s.data.toList (p + 1) 128 191 = true) (h6 : wi s.data.toList (p + 2) 128 191 = false) (h7 : wi s.data.toList p 240 240 = false) (h8 : wi s.data.toList p 244 244 = false) (h9 : wi s.data.toList p 240 244 = false) :
    Calls Tryz.prog 116 #[.string s, .int .i64 (p : Int)] w fun e w' => e = .returned (.int .i64 0) ∧ w = w' := by
  have H0 := Lib.hid h0
  have H1 := Lib.hid h1
  have H2 := Lib.hid h2
  have H3 := Lib.hid h3
  have H4 := Lib.hid h4
  have H5 := Lib.hid h5
  have H6 := Lib.hid h6
  have H7 := Lib.hid h7
  have H8 := Lib.hid h8
  have H9 := Lib.hid h9
  clear h0 h1 h2 h3 h4 h5 h6 h7 h8 h9
  have s1 : IntKind.i64.wrap ((p : Int) + 1) = (p : Int) + 1 := IntWalk.i64_in _ (by omega)
  have s2 : IntKind.i64.wrap ((p : Int) + 2) = (p : Int) + 2 := IntWalk.i64_in _ (by omega)
  have s3 : IntKind.i64.wrap ((p : Int) + 3) = (p : Int) + 3 := IntWalk.i64_in _ (by omega)
  go_enter Tryz.func116, Tryz.ntmps116
  go_wp2_with fail
  refine (within_is H0.out hs (by omega) (by omega) rfl rfl (by omega) (by omega)).mono ?_; rintro e w1 ⟨rfl, rfl⟩
  go_wp2_with fail
  refine (within_is H1.out hs (by omega) (by omega) rfl rfl (by omega) (by omega)).mono ?_; rintro e w1 ⟨rfl, rfl⟩
  go_wp2_with fail
  refine (within_is H2.out hs (by omega) (by omega) rfl rfl (by omega) (by omega)).mono ?_; rintro e w1 ⟨rfl, rfl⟩
  go_wp2_with fail
  refine (within_is H3.out hs (by omega) (by omega) rfl rfl (by omega) (by omega)).mono ?_; rintro e w1 ⟨rfl, rfl⟩
  go_wp2_with fail
  refine (within_is H4.out hs (by omega) (by omega) rfl rfl (by omega) (by omega)).mono ?_; rintro e w1 ⟨rfl, rfl⟩
  go_wp2_with fail
  refine (within_is H5.out hs (by omega) (by omega) rfl rfl (by omega) (by omega)).mono ?_; rintro e w1 ⟨rfl, rfl⟩
  go_wp2_with fail
  refine (within_is H6.out hs (by omega) (by omega) rfl rfl (by omega) (by omega)).mono ?_; rintro e w1 ⟨rfl, rfl⟩
  go_wp2_with fail
  refine (within_is H7.out hs (by omega) (by omega) rfl rfl (by omega) (by omega)).mono ?_; rintro e w1 ⟨rfl, rfl⟩
  go_wp2_with fail
  refine (within_is H8.out hs (by omega) (by omega) rfl rfl (by omega) (by omega)).mono ?_; rintro e w1 ⟨rfl, rfl⟩
  go_wp2_with fail
  refine (within_is H9.out hs (by omega) (by omega) rfl rfl (by omega) (by omega)).mono ?_; rintro e w1 ⟨rfl, rfl⟩
  go_wp2_with fail
  go_ret
  exact ⟨rfl, rfl⟩
set_option maxHeartbeats 1000000 in
theorem ch_ex_f (s : ByteArray) (p : Nat) (w : World) (hs : s.size ≤ 1099511627776) (hp : p ≤ 1099511627776) (h0 : wi s.data.toList p 0 127 = false) (h1 : wi s.data.toList p 194 223 = false) (h2 : wi s.data.toList p 224 224 = false) (h3 : wi s.data.toList p 237 237 = false) (h4 : wi s.data.toList p 224 239 = true) (h5 : wi s.data.toList (p + 1) 128 191 = false) (h6 : wi s.data.toList p 240 240 = false) (h7 : wi s.data.toList p 244 244 = false) (h8 : wi s.data.toList p 240 244 = false) :
    Calls Tryz.prog 116 #[.string s, .int .i64 (p : Int)] w fun e w' => e = .returned (.int .i64 0) ∧ w = w' := by
  have H0 := Lib.hid h0
  have H1 := Lib.hid h1
  have H2 := Lib.hid h2
  have H3 := Lib.hid h3
  have H4 := Lib.hid h4
  have H5 := Lib.hid h5
  have H6 := Lib.hid h6
  have H7 := Lib.hid h7
  have H8 := Lib.hid h8
  clear h0 h1 h2 h3 h4 h5 h6 h7 h8
  have s1 : IntKind.i64.wrap ((p : Int) + 1) = (p : Int) + 1 := IntWalk.i64_in _ (by omega)
  have s2 : IntKind.i64.wrap ((p : Int) + 2) = (p : Int) + 2 := IntWalk.i64_in _ (by omega)
  have s3 : IntKind.i64.wrap ((p : Int) + 3) = (p : Int) + 3 := IntWalk.i64_in _ (by omega)
  go_enter Tryz.func116, Tryz.ntmps116
  go_wp2_with fail
  refine (within_is H0.out hs (by omega) (by omega) rfl rfl (by omega) (by omega)).mono ?_; rintro e w1 ⟨rfl, rfl⟩
  go_wp2_with fail
  refine (within_is H1.out hs (by omega) (by omega) rfl rfl (by omega) (by omega)).mono ?_; rintro e w1 ⟨rfl, rfl⟩
  go_wp2_with fail
  refine (within_is H2.out hs (by omega) (by omega) rfl rfl (by omega) (by omega)).mono ?_; rintro e w1 ⟨rfl, rfl⟩
  go_wp2_with fail
  refine (within_is H3.out hs (by omega) (by omega) rfl rfl (by omega) (by omega)).mono ?_; rintro e w1 ⟨rfl, rfl⟩
  go_wp2_with fail
  refine (within_is H4.out hs (by omega) (by omega) rfl rfl (by omega) (by omega)).mono ?_; rintro e w1 ⟨rfl, rfl⟩
  go_wp2_with fail
  refine (within_is H5.out hs (by omega) (by omega) rfl rfl (by omega) (by omega)).mono ?_; rintro e w1 ⟨rfl, rfl⟩
  go_wp2_with fail
  refine (within_is H6.out hs (by omega) (by omega) rfl rfl (by omega) (by omega)).mono ?_; rintro e w1 ⟨rfl, rfl⟩
  go_wp2_with fail
  refine (within_is H7.out hs (by omega) (by omega) rfl rfl (by omega) (by omega)).mono ?_; rintro e w1 ⟨rfl, rfl⟩
  go_wp2_with fail
  refine (within_is H8.out hs (by omega) (by omega) rfl rfl (by omega) (by omega)).mono ?_; rintro e w1 ⟨rfl, rfl⟩
  go_wp2_with fail
  go_ret
  exact ⟨rfl, rfl⟩
set_option maxHeartbeats 1000000 in
theorem ch_f0_ttt (s : ByteArray) (p : Nat) (w : World) (hs : s.size ≤ 1099511627776) (hp : p ≤ 1099511627776) (h0 : wi s.data.toList p 0 127 = false) (h1 : wi s.data.toList p 194 223 = false) (h2 : wi s.data.toList p 224 224 = false) (h3 : wi s.data.toList p 237 237 = false) (h4 : wi s.data.toList p 224 239 = false) (h5 : wi s.data.toList p 240 240 = true) (h6 : wi s.data.toList p 244 244 = false) (h7 : wi s.data.toList p 240 244 = true) (h8 : wi s.data.toList (p + 1) 144 191 = true) (h9 : wi s.data.toList (p + 2) 128 191 = true) (h10 : wi s.data.toList (p + 3) 128 191 = true) :
    Calls Tryz.prog 116 #[.string s, .int .i64 (p : Int)] w fun e w' => e = .returned (.int .i64 4) ∧ w = w' := by
  have H0 := Lib.hid h0
  have H1 := Lib.hid h1
  have H2 := Lib.hid h2
  have H3 := Lib.hid h3
  have H4 := Lib.hid h4
  have H5 := Lib.hid h5
  have H6 := Lib.hid h6
  have H7 := Lib.hid h7
  have H8 := Lib.hid h8
  have H9 := Lib.hid h9
  have H10 := Lib.hid h10
  clear h0 h1 h2 h3 h4 h5 h6 h7 h8 h9 h10
  have s1 : IntKind.i64.wrap ((p : Int) + 1) = (p : Int) + 1 := IntWalk.i64_in _ (by omega)
  have s2 : IntKind.i64.wrap ((p : Int) + 2) = (p : Int) + 2 := IntWalk.i64_in _ (by omega)
  have s3 : IntKind.i64.wrap ((p : Int) + 3) = (p : Int) + 3 := IntWalk.i64_in _ (by omega)
  go_enter Tryz.func116, Tryz.ntmps116
  go_wp2_with fail
  refine (within_is H0.out hs (by omega) (by omega) rfl rfl (by omega) (by omega)).mono ?_; rintro e w1 ⟨rfl, rfl⟩
  go_wp2_with fail
  refine (within_is H1.out hs (by omega) (by omega) rfl rfl (by omega) (by omega)).mono ?_; rintro e w1 ⟨rfl, rfl⟩
  go_wp2_with fail
  refine (within_is H2.out hs (by omega) (by omega) rfl rfl (by omega) (by omega)).mono ?_; rintro e w1 ⟨rfl, rfl⟩
  go_wp2_with fail
  refine (within_is H3.out hs (by omega) (by omega) rfl rfl (by omega) (by omega)).mono ?_; rintro e w1 ⟨rfl, rfl⟩
  go_wp2_with fail
  refine (within_is H4.out hs (by omega) (by omega) rfl rfl (by omega) (by omega)).mono ?_; rintro e w1 ⟨rfl, rfl⟩
  go_wp2_with fail
  refine (within_is H5.out hs (by omega) (by omega) rfl rfl (by omega) (by omega)).mono ?_; rintro e w1 ⟨rfl, rfl⟩
  go_wp2_with fail
  refine (within_is H6.out hs (by omega) (by omega) rfl rfl (by omega) (by omega)).mono ?_; rintro e w1 ⟨rfl, rfl⟩
  go_wp2_with fail
  refine (within_is H7.out hs (by omega) (by omega) rfl rfl (by omega) (by omega)).mono ?_; rintro e w1 ⟨rfl, rfl⟩
  go_wp2_with fail
  refine (within_is H8.out hs (by omega) (by omega) rfl rfl (by omega) (by omega)).mono ?_; rintro e w1 ⟨rfl, rfl⟩
  go_wp2_with fail
  refine (within_is H9.out hs (by omega) (by omega) rfl rfl (by omega) (by omega)).mono ?_; rintro e w1 ⟨rfl, rfl⟩
  go_wp2_with fail
  refine (within_is H10.out hs (by omega) (by omega) rfl rfl (by omega) (by omega)).mono ?_; rintro e w1 ⟨rfl, rfl⟩
  go_wp2_with fail
  go_ret
  exact ⟨rfl, rfl⟩
set_option maxHeartbeats 1000000 in
theorem ch_f0_ttf (s : ByteArray) (p : Nat) (w : World) (hs : s.size ≤ 1099511627776) (hp : p ≤ 1099511627776) (h0 : wi s.data.toList p 0 127 = false) (h1 : wi s.data.toList p 194 223 = false) (h2 : wi s.data.toList p 224 224 = false) (h3 : wi s.data.toList p 237 237 = false) (h4 : wi s.data.toList p 224 239 = false) (h5 : wi s.data.toList p 240 240 = true) (h6 : wi s.data.toList p 244 244 = false) (h7 : wi s.data.toList p 240 244 = true) (h8 : wi s.data.toList (p + 1) 144 191 = true) (h9 : wi s.data.toList (p + 2) 128 191 = true) (h10 : wi s.data.toList (p + 3) 128 191 = false) :
    Calls Tryz.prog 116 #[.string s, .int .i64 (p : Int)] w fun e w' => e = .returned (.int .i64 0) ∧ w = w' := by
  have H0 := Lib.hid h0
  have H1 := Lib.hid h1
  have H2 := Lib.hid h2
  have H3 := Lib.hid h3
  have H4 := Lib.hid h4
  have H5 := Lib.hid h5
  have H6 := Lib.hid h6
  have H7 := Lib.hid h7
  have H8 := Lib.hid h8
  have H9 := Lib.hid h9
  have H10 := Lib.hid h10
  clear h0 h1 h2 h3 h4 h5 h6 h7 h8 h9 h10
  have s1 : IntKind.i64.wrap ((p : Int) + 1) = (p : Int) + 1 := IntWalk.i64_in _ (by omega)
  have s2 : IntKind.i64.wrap ((p : Int) + 2) = (p : Int) + 2 := IntWalk.i64_in _ (by omega)
  have s3 : IntKind.i64.wrap ((p : Int) + 3) = (p : Int) + 3 := IntWalk.i64_in _ (by omega)
  go_enter Tryz.func116, Tryz.ntmps116
  go_wp2_with fail
  refine (within_is H0.out hs (by omega) (by omega) rfl rfl (by omega) (by omega)).mono ?_; rintro e w1 ⟨rfl, rfl⟩
  go_wp2_with fail
  refine (within_is H1.out hs (by omega) (by omega) rfl rfl (by omega) (by omega)).mono ?_; rintro e w1 ⟨rfl, rfl⟩
  go_wp2_with fail
  refine (within_is H2.out hs (by omega) (by omega) rfl rfl (by omega) (by omega)).mono ?_; rintro e w1 ⟨rfl, rfl⟩
  go_wp2_with fail
  refine (within_is H3.out hs (by omega) (by omega) rfl rfl (by omega) (by omega)).mono ?_; rintro e w1 ⟨rfl, rfl⟩
  go_wp2_with fail
  refine (within_is H4.out hs (by omega) (by omega) rfl rfl (by omega) (by omega)).mono ?_; rintro e w1 ⟨rfl, rfl⟩
  go_wp2_with fail
  refine (within_is H5.out hs (by omega) (by omega) rfl rfl (by omega) (by omega)).mono ?_; rintro e w1 ⟨rfl, rfl⟩
  go_wp2_with fail
  refine (within_is H6.out hs (by omega) (by omega) rfl rfl (by omega) (by omega)).mono ?_; rintro e w1 ⟨rfl, rfl⟩
  go_wp2_with fail
  refine (within_is H7.out hs (by omega) (by omega) rfl rfl (by omega) (by omega)).mono ?_; rintro e w1 ⟨rfl, rfl⟩
  go_wp2_with fail
  refine (within_is H8.out hs (by omega) (by omega) rfl rfl (by omega) (by omega)).mono ?_; rintro e w1 ⟨rfl, rfl⟩
  go_wp2_with fail
  refine (within_is H9.out hs (by omega) (by omega) rfl rfl (by omega) (by omega)).mono ?_; rintro e w1 ⟨rfl, rfl⟩
  go_wp2_with fail
  refine (within_is H10.out hs (by omega) (by omega) rfl rfl (by omega) (by omega)).mono ?_; rintro e w1 ⟨rfl, rfl⟩
  go_wp2_with fail
  go_ret
  exact ⟨rfl, rfl⟩
set_option maxHeartbeats 1000000 in
theorem ch_f0_tf (s : ByteArray) (p : Nat) (w : World) (hs : s.size ≤ 1099511627776) (hp : p ≤ 1099511627776) (h0 : wi s.data.toList p 0 127 = false) (h1 : wi s.data.toList p 194 223 = false) (h2 : wi s.data.toList p 224 224 = false) (h3 : wi s.data.toList p 237 237 = false) (h4 : wi s.data.toList p 224 239 = false) (h5 : wi s.data.toList p 240 240 = true) (h6 : wi s.data.toList p 244 244 = false) (h7 : wi s.data.toList p 240 244 = true) (h8 : wi s.data.toList (p + 1) 144 191 = true) (h9 : wi s.data.toList (p + 2) 128 191 = false) :
    Calls Tryz.prog 116 #[.string s, .int .i64 (p : Int)] w fun e w' => e = .returned (.int .i64 0) ∧ w = w' := by
  have H0 := Lib.hid h0
  have H1 := Lib.hid h1
  have H2 := Lib.hid h2
  have H3 := Lib.hid h3
  have H4 := Lib.hid h4
  have H5 := Lib.hid h5
  have H6 := Lib.hid h6
  have H7 := Lib.hid h7
  have H8 := Lib.hid h8
  have H9 := Lib.hid h9
  clear h0 h1 h2 h3 h4 h5 h6 h7 h8 h9
  have s1 : IntKind.i64.wrap ((p : Int) + 1) = (p : Int) + 1 := IntWalk.i64_in _ (by omega)
  have s2 : IntKind.i64.wrap ((p : Int) + 2) = (p : Int) + 2 := IntWalk.i64_in _ (by omega)
  have s3 : IntKind.i64.wrap ((p : Int) + 3) = (p : Int) + 3 := IntWalk.i64_in _ (by omega)
  go_enter Tryz.func116, Tryz.ntmps116
  go_wp2_with fail
  refine (within_is H0.out hs (by omega) (by omega) rfl rfl (by omega) (by omega)).mono ?_; rintro e w1 ⟨rfl, rfl⟩
  go_wp2_with fail
  refine (within_is H1.out hs (by omega) (by omega) rfl rfl (by omega) (by omega)).mono ?_; rintro e w1 ⟨rfl, rfl⟩
  go_wp2_with fail
  refine (within_is H2.out hs (by omega) (by omega) rfl rfl (by omega) (by omega)).mono ?_; rintro e w1 ⟨rfl, rfl⟩
  go_wp2_with fail
  refine (within_is H3.out hs (by omega) (by omega) rfl rfl (by omega) (by omega)).mono ?_; rintro e w1 ⟨rfl, rfl⟩
  go_wp2_with fail
  refine (within_is H4.out hs (by omega) (by omega) rfl rfl (by omega) (by omega)).mono ?_; rintro e w1 ⟨rfl, rfl⟩
  go_wp2_with fail
  refine (within_is H5.out hs (by omega) (by omega) rfl rfl (by omega) (by omega)).mono ?_; rintro e w1 ⟨rfl, rfl⟩
  go_wp2_with fail
  refine (within_is H6.out hs (by omega) (by omega) rfl rfl (by omega) (by omega)).mono ?_; rintro e w1 ⟨rfl, rfl⟩
  go_wp2_with fail
  refine (within_is H7.out hs (by omega) (by omega) rfl rfl (by omega) (by omega)).mono ?_; rintro e w1 ⟨rfl, rfl⟩
  go_wp2_with fail
  refine (within_is H8.out hs (by omega) (by omega) rfl rfl (by omega) (by omega)).mono ?_; rintro e w1 ⟨rfl, rfl⟩
  go_wp2_with fail
  refine (within_is H9.out hs (by omega) (by omega) rfl rfl (by omega) (by omega)).mono ?_; rintro e w1 ⟨rfl, rfl⟩
  go_wp2_with fail
  go_ret
  exact ⟨rfl, rfl⟩
set_option maxHeartbeats 1000000 in
theorem ch_f0_f (s : ByteArray) (p : Nat) (w : World) (hs : s.size ≤ 1099511627776) (hp : p ≤ 1099511627776) (h0 : wi s.data.toList p 0 127 = false) (h1 : wi s.data.toList p 194 223 = false) (h2 : wi s.data.toList p 224 224 = false) (h3 : wi s.data.toList p 237 237 = false) (h4 : wi s.data.toList p 224 239 = false) (h5 : wi s.data.toList p 240 240 = true) (h6 : wi s.data.toList p 244 244 = false) (h7 : wi s.data.toList p 240 244 = true) (h8 : wi s.data.toList (p + 1) 144 191 = false) :
    Calls Tryz.prog 116 #[.string s, .int .i64 (p : Int)] w fun e w' => e = .returned (.int .i64 0) ∧ w = w' := by
  have H0 := Lib.hid h0
  have H1 := Lib.hid h1
  have H2 := Lib.hid h2
  have H3 := Lib.hid h3
  have H4 := Lib.hid h4
  have H5 := Lib.hid h5
  have H6 := Lib.hid h6
  have H7 := Lib.hid h7
  have H8 := Lib.hid h8
  clear h0 h1 h2 h3 h4 h5 h6 h7 h8
  have s1 : IntKind.i64.wrap ((p : Int) + 1) = (p : Int) + 1 := IntWalk.i64_in _ (by omega)
  have s2 : IntKind.i64.wrap ((p : Int) + 2) = (p : Int) + 2 := IntWalk.i64_in _ (by omega)
  have s3 : IntKind.i64.wrap ((p : Int) + 3) = (p : Int) + 3 := IntWalk.i64_in _ (by omega)
  go_enter Tryz.func116, Tryz.ntmps116
  go_wp2_with fail
  refine (within_is H0.out hs (by omega) (by omega) rfl rfl (by omega) (by omega)).mono ?_; rintro e w1 ⟨rfl, rfl⟩
  go_wp2_with fail
  refine (within_is H1.out hs (by omega) (by omega) rfl rfl (by omega) (by omega)).mono ?_; rintro e w1 ⟨rfl, rfl⟩
  go_wp2_with fail
  refine (within_is H2.out hs (by omega) (by omega) rfl rfl (by omega) (by omega)).mono ?_; rintro e w1 ⟨rfl, rfl⟩
  go_wp2_with fail
  refine (within_is H3.out hs (by omega) (by omega) rfl rfl (by omega) (by omega)).mono ?_; rintro e w1 ⟨rfl, rfl⟩
  go_wp2_with fail
  refine (within_is H4.out hs (by omega) (by omega) rfl rfl (by omega) (by omega)).mono ?_; rintro e w1 ⟨rfl, rfl⟩
  go_wp2_with fail
  refine (within_is H5.out hs (by omega) (by omega) rfl rfl (by omega) (by omega)).mono ?_; rintro e w1 ⟨rfl, rfl⟩
  go_wp2_with fail
  refine (within_is H6.out hs (by omega) (by omega) rfl rfl (by omega) (by omega)).mono ?_; rintro e w1 ⟨rfl, rfl⟩
  go_wp2_with fail
  refine (within_is H7.out hs (by omega) (by omega) rfl rfl (by omega) (by omega)).mono ?_; rintro e w1 ⟨rfl, rfl⟩
  go_wp2_with fail
  refine (within_is H8.out hs (by omega) (by omega) rfl rfl (by omega) (by omega)).mono ?_; rintro e w1 ⟨rfl, rfl⟩
  go_wp2_with fail
  go_ret
  exact ⟨rfl, rfl⟩
set_option maxHeartbeats 1000000 in
theorem ch_f4_ttt (s : ByteArray) (p : Nat) (w : World) (hs : s.size ≤ 1099511627776) (hp : p ≤ 1099511627776) (h0 : wi s.data.toList p 0 127 = false) (h1 : wi s.data.toList p 194 223 = false) (h2 : wi s.data.toList p 224 224 = false) (h3 : wi s.data.toList p 237 237 = false) (h4 : wi s.data.toList p 224 239 = false) (h5 : wi s.data.toList p 240 240 = false) (h6 : wi s.data.toList p 244 244 = true) (h7 : wi s.data.toList p 240 244 = true) (h8 : wi s.data.toList (p + 1) 128 143 = true) (h9 : wi s.data.toList (p + 2) 128 191 = true) (h10 : wi s.data.toList (p + 3) 128 191 = true) :
    Calls Tryz.prog 116 #[.string s, .int .i64 (p : Int)] w fun e w' => e = .returned (.int .i64 4) ∧ w = w' := by
  have H0 := Lib.hid h0
  have H1 := Lib.hid h1
  have H2 := Lib.hid h2
  have H3 := Lib.hid h3
  have H4 := Lib.hid h4
  have H5 := Lib.hid h5
  have H6 := Lib.hid h6
  have H7 := Lib.hid h7
  have H8 := Lib.hid h8
  have H9 := Lib.hid h9
  have H10 := Lib.hid h10
  clear h0 h1 h2 h3 h4 h5 h6 h7 h8 h9 h10
  have s1 : IntKind.i64.wrap ((p : Int) + 1) = (p : Int) + 1 := IntWalk.i64_in _ (by omega)
  have s2 : IntKind.i64.wrap ((p : Int) + 2) = (p : Int) + 2 := IntWalk.i64_in _ (by omega)
  have s3 : IntKind.i64.wrap ((p : Int) + 3) = (p : Int) + 3 := IntWalk.i64_in _ (by omega)
  go_enter Tryz.func116, Tryz.ntmps116
  go_wp2_with fail
  refine (within_is H0.out hs (by omega) (by omega) rfl rfl (by omega) (by omega)).mono ?_; rintro e w1 ⟨rfl, rfl⟩
  go_wp2_with fail
  refine (within_is H1.out hs (by omega) (by omega) rfl rfl (by omega) (by omega)).mono ?_; rintro e w1 ⟨rfl, rfl⟩
  go_wp2_with fail
  refine (within_is H2.out hs (by omega) (by omega) rfl rfl (by omega) (by omega)).mono ?_; rintro e w1 ⟨rfl, rfl⟩
  go_wp2_with fail
  refine (within_is H3.out hs (by omega) (by omega) rfl rfl (by omega) (by omega)).mono ?_; rintro e w1 ⟨rfl, rfl⟩
  go_wp2_with fail
  refine (within_is H4.out hs (by omega) (by omega) rfl rfl (by omega) (by omega)).mono ?_; rintro e w1 ⟨rfl, rfl⟩
  go_wp2_with fail
  refine (within_is H5.out hs (by omega) (by omega) rfl rfl (by omega) (by omega)).mono ?_; rintro e w1 ⟨rfl, rfl⟩
  go_wp2_with fail
  refine (within_is H6.out hs (by omega) (by omega) rfl rfl (by omega) (by omega)).mono ?_; rintro e w1 ⟨rfl, rfl⟩
  go_wp2_with fail
  refine (within_is H7.out hs (by omega) (by omega) rfl rfl (by omega) (by omega)).mono ?_; rintro e w1 ⟨rfl, rfl⟩
  go_wp2_with fail
  refine (within_is H8.out hs (by omega) (by omega) rfl rfl (by omega) (by omega)).mono ?_; rintro e w1 ⟨rfl, rfl⟩
  go_wp2_with fail
  refine (within_is H9.out hs (by omega) (by omega) rfl rfl (by omega) (by omega)).mono ?_; rintro e w1 ⟨rfl, rfl⟩
  go_wp2_with fail
  refine (within_is H10.out hs (by omega) (by omega) rfl rfl (by omega) (by omega)).mono ?_; rintro e w1 ⟨rfl, rfl⟩
  go_wp2_with fail
  go_ret
  exact ⟨rfl, rfl⟩
set_option maxHeartbeats 1000000 in
theorem ch_f4_ttf (s : ByteArray) (p : Nat) (w : World) (hs : s.size ≤ 1099511627776) (hp : p ≤ 1099511627776) (h0 : wi s.data.toList p 0 127 = false) (h1 : wi s.data.toList p 194 223 = false) (h2 : wi s.data.toList p 224 224 = false) (h3 : wi s.data.toList p 237 237 = false) (h4 : wi s.data.toList p 224 239 = false) (h5 : wi s.data.toList p 240 240 = false) (h6 : wi s.data.toList p 244 244 = true) (h7 : wi s.data.toList p 240 244 = true) (h8 : wi s.data.toList (p + 1) 128 143 = true) (h9 : wi s.data.toList (p + 2) 128 191 = true) (h10 : wi s.data.toList (p + 3) 128 191 = false) :
    Calls Tryz.prog 116 #[.string s, .int .i64 (p : Int)] w fun e w' => e = .returned (.int .i64 0) ∧ w = w' := by
  have H0 := Lib.hid h0
  have H1 := Lib.hid h1
  have H2 := Lib.hid h2
  have H3 := Lib.hid h3
  have H4 := Lib.hid h4
  have H5 := Lib.hid h5
  have H6 := Lib.hid h6
  have H7 := Lib.hid h7
  have H8 := Lib.hid h8
  have H9 := Lib.hid h9
  have H10 := Lib.hid h10
  clear h0 h1 h2 h3 h4 h5 h6 h7 h8 h9 h10
  have s1 : IntKind.i64.wrap ((p : Int) + 1) = (p : Int) + 1 := IntWalk.i64_in _ (by omega)
  have s2 : IntKind.i64.wrap ((p : Int) + 2) = (p : Int) + 2 := IntWalk.i64_in _ (by omega)
  have s3 : IntKind.i64.wrap ((p : Int) + 3) = (p : Int) + 3 := IntWalk.i64_in _ (by omega)
  go_enter Tryz.func116, Tryz.ntmps116
  go_wp2_with fail
  refine (within_is H0.out hs (by omega) (by omega) rfl rfl (by omega) (by omega)).mono ?_; rintro e w1 ⟨rfl, rfl⟩
  go_wp2_with fail
  refine (within_is H1.out hs (by omega) (by omega) rfl rfl (by omega) (by omega)).mono ?_; rintro e w1 ⟨rfl, rfl⟩
  go_wp2_with fail
  refine (within_is H2.out hs (by omega) (by omega) rfl rfl (by omega) (by omega)).mono ?_; rintro e w1 ⟨rfl, rfl⟩
  go_wp2_with fail
  refine (within_is H3.out hs (by omega) (by omega) rfl rfl (by omega) (by omega)).mono ?_; rintro e w1 ⟨rfl, rfl⟩
  go_wp2_with fail
  refine (within_is H4.out hs (by omega) (by omega) rfl rfl (by omega) (by omega)).mono ?_; rintro e w1 ⟨rfl, rfl⟩
  go_wp2_with fail
  refine (within_is H5.out hs (by omega) (by omega) rfl rfl (by omega) (by omega)).mono ?_; rintro e w1 ⟨rfl, rfl⟩
  go_wp2_with fail
  refine (within_is H6.out hs (by omega) (by omega) rfl rfl (by omega) (by omega)).mono ?_; rintro e w1 ⟨rfl, rfl⟩
  go_wp2_with fail
  refine (within_is H7.out hs (by omega) (by omega) rfl rfl (by omega) (by omega)).mono ?_; rintro e w1 ⟨rfl, rfl⟩
  go_wp2_with fail
  refine (within_is H8.out hs (by omega) (by omega) rfl rfl (by omega) (by omega)).mono ?_; rintro e w1 ⟨rfl, rfl⟩
  go_wp2_with fail
  refine (within_is H9.out hs (by omega) (by omega) rfl rfl (by omega) (by omega)).mono ?_; rintro e w1 ⟨rfl, rfl⟩
  go_wp2_with fail
  refine (within_is H10.out hs (by omega) (by omega) rfl rfl (by omega) (by omega)).mono ?_; rintro e w1 ⟨rfl, rfl⟩
  go_wp2_with fail
  go_ret
  exact ⟨rfl, rfl⟩
set_option maxHeartbeats 1000000 in
theorem ch_f4_tf (s : ByteArray) (p : Nat) (w : World) (hs : s.size ≤ 1099511627776) (hp : p ≤ 1099511627776) (h0 : wi s.data.toList p 0 127 = false) (h1 : wi s.data.toList p 194 223 = false) (h2 : wi s.data.toList p 224 224 = false) (h3 : wi s.data.toList p 237 237 = false) (h4 : wi s.data.toList p 224 239 = false) (h5 : wi s.data.toList p 240 240 = false) (h6 : wi s.data.toList p 244 244 = true) (h7 : wi s.data.toList p 240 244 = true) (h8 : wi s.data.toList (p + 1) 128 143 = true) (h9 : wi s.data.toList (p + 2) 128 191 = false) :
    Calls Tryz.prog 116 #[.string s, .int .i64 (p : Int)] w fun e w' => e = .returned (.int .i64 0) ∧ w = w' := by
  have H0 := Lib.hid h0
  have H1 := Lib.hid h1
  have H2 := Lib.hid h2
  have H3 := Lib.hid h3
  have H4 := Lib.hid h4
  have H5 := Lib.hid h5
  have H6 := Lib.hid h6
  have H7 := Lib.hid h7
  have H8 := Lib.hid h8
  have H9 := Lib.hid h9
  clear h0 h1 h2 h3 h4 h5 h6 h7 h8 h9
  have s1 : IntKind.i64.wrap ((p : Int) + 1) = (p : Int) + 1 := IntWalk.i64_in _ (by omega)
  have s2 : IntKind.i64.wrap ((p : Int) + 2) = (p : Int) + 2 := IntWalk.i64_in _ (by omega)
  have s3 : IntKind.i64.wrap ((p : Int) + 3) = (p : Int) + 3 := IntWalk.i64_in _ (by omega)
  go_enter Tryz.func116, Tryz.ntmps116
  go_wp2_with fail
  refine (within_is H0.out hs (by omega) (by omega) rfl rfl (by omega) (by omega)).mono ?_; rintro e w1 ⟨rfl, rfl⟩
  go_wp2_with fail
  refine (within_is H1.out hs (by omega) (by omega) rfl rfl (by omega) (by omega)).mono ?_; rintro e w1 ⟨rfl, rfl⟩
  go_wp2_with fail
  refine (within_is H2.out hs (by omega) (by omega) rfl rfl (by omega) (by omega)).mono ?_; rintro e w1 ⟨rfl, rfl⟩
  go_wp2_with fail
  refine (within_is H3.out hs (by omega) (by omega) rfl rfl (by omega) (by omega)).mono ?_; rintro e w1 ⟨rfl, rfl⟩
  go_wp2_with fail
  refine (within_is H4.out hs (by omega) (by omega) rfl rfl (by omega) (by omega)).mono ?_; rintro e w1 ⟨rfl, rfl⟩
  go_wp2_with fail
  refine (within_is H5.out hs (by omega) (by omega) rfl rfl (by omega) (by omega)).mono ?_; rintro e w1 ⟨rfl, rfl⟩
  go_wp2_with fail
  refine (within_is H6.out hs (by omega) (by omega) rfl rfl (by omega) (by omega)).mono ?_; rintro e w1 ⟨rfl, rfl⟩
  go_wp2_with fail
  refine (within_is H7.out hs (by omega) (by omega) rfl rfl (by omega) (by omega)).mono ?_; rintro e w1 ⟨rfl, rfl⟩
  go_wp2_with fail
  refine (within_is H8.out hs (by omega) (by omega) rfl rfl (by omega) (by omega)).mono ?_; rintro e w1 ⟨rfl, rfl⟩
  go_wp2_with fail
  refine (within_is H9.out hs (by omega) (by omega) rfl rfl (by omega) (by omega)).mono ?_; rintro e w1 ⟨rfl, rfl⟩
  go_wp2_with fail
  go_ret
  exact ⟨rfl, rfl⟩
set_option maxHeartbeats 1000000 in
theorem ch_f4_f (s : ByteArray) (p : Nat) (w : World) (hs : s.size ≤ 1099511627776) (hp : p ≤ 1099511627776) (h0 : wi s.data.toList p 0 127 = false) (h1 : wi s.data.toList p 194 223 = false) (h2 : wi s.data.toList p 224 224 = false) (h3 : wi s.data.toList p 237 237 = false) (h4 : wi s.data.toList p 224 239 = false) (h5 : wi s.data.toList p 240 240 = false) (h6 : wi s.data.toList p 244 244 = true) (h7 : wi s.data.toList p 240 244 = true) (h8 : wi s.data.toList (p + 1) 128 143 = false) :
    Calls Tryz.prog 116 #[.string s, .int .i64 (p : Int)] w fun e w' => e = .returned (.int .i64 0) ∧ w = w' := by
  have H0 := Lib.hid h0
  have H1 := Lib.hid h1
  have H2 := Lib.hid h2
  have H3 := Lib.hid h3
  have H4 := Lib.hid h4
  have H5 := Lib.hid h5
  have H6 := Lib.hid h6
  have H7 := Lib.hid h7
  have H8 := Lib.hid h8
  clear h0 h1 h2 h3 h4 h5 h6 h7 h8
  have s1 : IntKind.i64.wrap ((p : Int) + 1) = (p : Int) + 1 := IntWalk.i64_in _ (by omega)
  have s2 : IntKind.i64.wrap ((p : Int) + 2) = (p : Int) + 2 := IntWalk.i64_in _ (by omega)
  have s3 : IntKind.i64.wrap ((p : Int) + 3) = (p : Int) + 3 := IntWalk.i64_in _ (by omega)
  go_enter Tryz.func116, Tryz.ntmps116
  go_wp2_with fail
  refine (within_is H0.out hs (by omega) (by omega) rfl rfl (by omega) (by omega)).mono ?_; rintro e w1 ⟨rfl, rfl⟩
  go_wp2_with fail
  refine (within_is H1.out hs (by omega) (by omega) rfl rfl (by omega) (by omega)).mono ?_; rintro e w1 ⟨rfl, rfl⟩
  go_wp2_with fail
  refine (within_is H2.out hs (by omega) (by omega) rfl rfl (by omega) (by omega)).mono ?_; rintro e w1 ⟨rfl, rfl⟩
  go_wp2_with fail
  refine (within_is H3.out hs (by omega) (by omega) rfl rfl (by omega) (by omega)).mono ?_; rintro e w1 ⟨rfl, rfl⟩
  go_wp2_with fail
  refine (within_is H4.out hs (by omega) (by omega) rfl rfl (by omega) (by omega)).mono ?_; rintro e w1 ⟨rfl, rfl⟩
  go_wp2_with fail
  refine (within_is H5.out hs (by omega) (by omega) rfl rfl (by omega) (by omega)).mono ?_; rintro e w1 ⟨rfl, rfl⟩
  go_wp2_with fail
  refine (within_is H6.out hs (by omega) (by omega) rfl rfl (by omega) (by omega)).mono ?_; rintro e w1 ⟨rfl, rfl⟩
  go_wp2_with fail
  refine (within_is H7.out hs (by omega) (by omega) rfl rfl (by omega) (by omega)).mono ?_; rintro e w1 ⟨rfl, rfl⟩
  go_wp2_with fail
  refine (within_is H8.out hs (by omega) (by omega) rfl rfl (by omega) (by omega)).mono ?_; rintro e w1 ⟨rfl, rfl⟩
  go_wp2_with fail
  go_ret
  exact ⟨rfl, rfl⟩
set_option maxHeartbeats 1000000 in
theorem ch_fx_ttt (s : ByteArray) (p : Nat) (w : World) (hs : s.size ≤ 1099511627776) (hp : p ≤ 1099511627776) (h0 : wi s.data.toList p 0 127 = false) (h1 : wi s.data.toList p 194 223 = false) (h2 : wi s.data.toList p 224 224 = false) (h3 : wi s.data.toList p 237 237 = false) (h4 : wi s.data.toList p 224 239 = false) (h5 : wi s.data.toList p 240 240 = false) (h6 : wi s.data.toList p 244 244 = false) (h7 : wi s.data.toList p 240 244 = true) (h8 : wi s.data.toList (p + 1) 128 191 = true) (h9 : wi s.data.toList (p + 2) 128 191 = true) (h10 : wi s.data.toList (p + 3) 128 191 = true) :
    Calls Tryz.prog 116 #[.string s, .int .i64 (p : Int)] w fun e w' => e = .returned (.int .i64 4) ∧ w = w' := by
  have H0 := Lib.hid h0
  have H1 := Lib.hid h1
  have H2 := Lib.hid h2
  have H3 := Lib.hid h3
  have H4 := Lib.hid h4
  have H5 := Lib.hid h5
  have H6 := Lib.hid h6
  have H7 := Lib.hid h7
  have H8 := Lib.hid h8
  have H9 := Lib.hid h9
  have H10 := Lib.hid h10
  clear h0 h1 h2 h3 h4 h5 h6 h7 h8 h9 h10
  have s1 : IntKind.i64.wrap ((p : Int) + 1) = (p : Int) + 1 := IntWalk.i64_in _ (by omega)
  have s2 : IntKind.i64.wrap ((p : Int) + 2) = (p : Int) + 2 := IntWalk.i64_in _ (by omega)
  have s3 : IntKind.i64.wrap ((p : Int) + 3) = (p : Int) + 3 := IntWalk.i64_in _ (by omega)
  go_enter Tryz.func116, Tryz.ntmps116
  go_wp2_with fail
  refine (within_is H0.out hs (by omega) (by omega) rfl rfl (by omega) (by omega)).mono ?_; rintro e w1 ⟨rfl, rfl⟩
  go_wp2_with fail
  refine (within_is H1.out hs (by omega) (by omega) rfl rfl (by omega) (by omega)).mono ?_; rintro e w1 ⟨rfl, rfl⟩
  go_wp2_with fail
  refine (within_is H2.out hs (by omega) (by omega) rfl rfl (by omega) (by omega)).mono ?_; rintro e w1 ⟨rfl, rfl⟩
  go_wp2_with fail
  refine (within_is H3.out hs (by omega) (by omega) rfl rfl (by omega) (by omega)).mono ?_; rintro e w1 ⟨rfl, rfl⟩
  go_wp2_with fail
  refine (within_is H4.out hs (by omega) (by omega) rfl rfl (by omega) (by omega)).mono ?_; rintro e w1 ⟨rfl, rfl⟩
  go_wp2_with fail
  refine (within_is H5.out hs (by omega) (by omega) rfl rfl (by omega) (by omega)).mono ?_; rintro e w1 ⟨rfl, rfl⟩
  go_wp2_with fail
  refine (within_is H6.out hs (by omega) (by omega) rfl rfl (by omega) (by omega)).mono ?_; rintro e w1 ⟨rfl, rfl⟩
  go_wp2_with fail
  refine (within_is H7.out hs (by omega) (by omega) rfl rfl (by omega) (by omega)).mono ?_; rintro e w1 ⟨rfl, rfl⟩
  go_wp2_with fail
  refine (within_is H8.out hs (by omega) (by omega) rfl rfl (by omega) (by omega)).mono ?_; rintro e w1 ⟨rfl, rfl⟩
  go_wp2_with fail
  refine (within_is H9.out hs (by omega) (by omega) rfl rfl (by omega) (by omega)).mono ?_; rintro e w1 ⟨rfl, rfl⟩
  go_wp2_with fail
  refine (within_is H10.out hs (by omega) (by omega) rfl rfl (by omega) (by omega)).mono ?_; rintro e w1 ⟨rfl, rfl⟩
  go_wp2_with fail
  go_ret
  exact ⟨rfl, rfl⟩
set_option maxHeartbeats 1000000 in
theorem ch_fx_ttf (s : ByteArray) (p : Nat) (w : World) (hs : s.size ≤ 1099511627776) (hp : p ≤ 1099511627776) (h0 : wi s.data.toList p 0 127 = false) (h1 : wi s.data.toList p 194 223 = false) (h2 : wi s.data.toList p 224 224 = false) (h3 : wi s.data.toList p 237 237 = false) (h4 : wi s.data.toList p 224 239 = false) (h5 : wi s.data.toList p 240 240 = false) (h6 : wi s.data.toList p 244 244 = false) (h7 : wi s.data.toList p 240 244 = true) (h8 : wi s.data.toList (p + 1) 128 191 = true) (h9 : wi s.data.toList (p + 2) 128 191 = true) (h10 : wi s.data.toList (p + 3) 128 191 = false) :
    Calls Tryz.prog 116 #[.string s, .int .i64 (p : Int)] w fun e w' => e = .returned (.int .i64 0) ∧ w = w' := by
  have H0 := Lib.hid h0
  have H1 := Lib.hid h1
  have H2 := Lib.hid h2
  have H3 := Lib.hid h3
  have H4 := Lib.hid h4
  have H5 := Lib.hid h5
  have H6 := Lib.hid h6
  have H7 := Lib.hid h7
  have H8 := Lib.hid h8
  have H9 := Lib.hid h9
  have H10 := Lib.hid h10
  clear h0 h1 h2 h3 h4 h5 h6 h7 h8 h9 h10
  have s1 : IntKind.i64.wrap ((p : Int) + 1) = (p : Int) + 1 := IntWalk.i64_in _ (by omega)
  have s2 : IntKind.i64.wrap ((p : Int) + 2) = (p : Int) + 2 := IntWalk.i64_in _ (by omega)
  have s3 : IntKind.i64.wrap ((p : Int) + 3) = (p : Int) + 3 := IntWalk.i64_in _ (by omega)
  go_enter Tryz.func116, Tryz.ntmps116
  go_wp2_with fail
  refine (within_is H0.out hs (by omega) (by omega) rfl rfl (by omega) (by omega)).mono ?_; rintro e w1 ⟨rfl, rfl⟩
  go_wp2_with fail
  refine (within_is H1.out hs (by omega) (by omega) rfl rfl (by omega) (by omega)).mono ?_; rintro e w1 ⟨rfl, rfl⟩
  go_wp2_with fail
  refine (within_is H2.out hs (by omega) (by omega) rfl rfl (by omega) (by omega)).mono ?_; rintro e w1 ⟨rfl, rfl⟩
  go_wp2_with fail
  refine (within_is H3.out hs (by omega) (by omega) rfl rfl (by omega) (by omega)).mono ?_; rintro e w1 ⟨rfl, rfl⟩
  go_wp2_with fail
  refine (within_is H4.out hs (by omega) (by omega) rfl rfl (by omega) (by omega)).mono ?_; rintro e w1 ⟨rfl, rfl⟩
  go_wp2_with fail
  refine (within_is H5.out hs (by omega) (by omega) rfl rfl (by omega) (by omega)).mono ?_; rintro e w1 ⟨rfl, rfl⟩
  go_wp2_with fail
  refine (within_is H6.out hs (by omega) (by omega) rfl rfl (by omega) (by omega)).mono ?_; rintro e w1 ⟨rfl, rfl⟩
  go_wp2_with fail
  refine (within_is H7.out hs (by omega) (by omega) rfl rfl (by omega) (by omega)).mono ?_; rintro e w1 ⟨rfl, rfl⟩
  go_wp2_with fail
  refine (within_is H8.out hs (by omega) (by omega) rfl rfl (by omega) (by omega)).mono ?_; rintro e w1 ⟨rfl, rfl⟩
  go_wp2_with fail
  refine (within_is H9.out hs (by omega) (by omega) rfl rfl (by omega) (by omega)).mono ?_; rintro e w1 ⟨rfl, rfl⟩
  go_wp2_with fail
  refine (within_is H10.out hs (by omega) (by omega) rfl rfl (by omega) (by omega)).mono ?_; rintro e w1 ⟨rfl, rfl⟩
  go_wp2_with fail
  go_ret
  exact ⟨rfl, rfl⟩
set_option maxHeartbeats 1000000 in
theorem ch_fx_tf (s : ByteArray) (p : Nat) (w : World) (hs : s.size ≤ 1099511627776) (hp : p ≤ 1099511627776) (h0 : wi s.data.toList p 0 127 = false) (h1 : wi s.data.toList p 194 223 = false) (h2 : wi s.data.toList p 224 224 = false) (h3 : wi s.data.toList p 237 237 = false) (h4 : wi s.data.toList p 224 239 = false) (h5 : wi s.data.toList p 240 240 = false) (h6 : wi s.data.toList p 244 244 = false) (h7 : wi s.data.toList p 240 244 = true) (h8 : wi s.data.toList (p + 1) 128 191 = true) (h9 : wi s.data.toList (p + 2) 128 191 = false) :
    Calls Tryz.prog 116 #[.string s, .int .i64 (p : Int)] w fun e w' => e = .returned (.int .i64 0) ∧ w = w' := by
  have H0 := Lib.hid h0
  have H1 := Lib.hid h1
  have H2 := Lib.hid h2
  have H3 := Lib.hid h3
  have H4 := Lib.hid h4
  have H5 := Lib.hid h5
  have H6 := Lib.hid h6
  have H7 := Lib.hid h7
  have H8 := Lib.hid h8
  have H9 := Lib.hid h9
  clear h0 h1 h2 h3 h4 h5 h6 h7 h8 h9
  have s1 : IntKind.i64.wrap ((p : Int) + 1) = (p : Int) + 1 := IntWalk.i64_in _ (by omega)
  have s2 : IntKind.i64.wrap ((p : Int) + 2) = (p : Int) + 2 := IntWalk.i64_in _ (by omega)
  have s3 : IntKind.i64.wrap ((p : Int) + 3) = (p : Int) + 3 := IntWalk.i64_in _ (by omega)
  go_enter Tryz.func116, Tryz.ntmps116
  go_wp2_with fail
  refine (within_is H0.out hs (by omega) (by omega) rfl rfl (by omega) (by omega)).mono ?_; rintro e w1 ⟨rfl, rfl⟩
  go_wp2_with fail
  refine (within_is H1.out hs (by omega) (by omega) rfl rfl (by omega) (by omega)).mono ?_; rintro e w1 ⟨rfl, rfl⟩
  go_wp2_with fail
  refine (within_is H2.out hs (by omega) (by omega) rfl rfl (by omega) (by omega)).mono ?_; rintro e w1 ⟨rfl, rfl⟩
  go_wp2_with fail
  refine (within_is H3.out hs (by omega) (by omega) rfl rfl (by omega) (by omega)).mono ?_; rintro e w1 ⟨rfl, rfl⟩
  go_wp2_with fail
  refine (within_is H4.out hs (by omega) (by omega) rfl rfl (by omega) (by omega)).mono ?_; rintro e w1 ⟨rfl, rfl⟩
  go_wp2_with fail
  refine (within_is H5.out hs (by omega) (by omega) rfl rfl (by omega) (by omega)).mono ?_; rintro e w1 ⟨rfl, rfl⟩
  go_wp2_with fail
  refine (within_is H6.out hs (by omega) (by omega) rfl rfl (by omega) (by omega)).mono ?_; rintro e w1 ⟨rfl, rfl⟩
  go_wp2_with fail
  refine (within_is H7.out hs (by omega) (by omega) rfl rfl (by omega) (by omega)).mono ?_; rintro e w1 ⟨rfl, rfl⟩
  go_wp2_with fail
  refine (within_is H8.out hs (by omega) (by omega) rfl rfl (by omega) (by omega)).mono ?_; rintro e w1 ⟨rfl, rfl⟩
  go_wp2_with fail
  refine (within_is H9.out hs (by omega) (by omega) rfl rfl (by omega) (by omega)).mono ?_; rintro e w1 ⟨rfl, rfl⟩
  go_wp2_with fail
  go_ret
  exact ⟨rfl, rfl⟩
set_option maxHeartbeats 1000000 in
theorem ch_fx_f (s : ByteArray) (p : Nat) (w : World) (hs : s.size ≤ 1099511627776) (hp : p ≤ 1099511627776) (h0 : wi s.data.toList p 0 127 = false) (h1 : wi s.data.toList p 194 223 = false) (h2 : wi s.data.toList p 224 224 = false) (h3 : wi s.data.toList p 237 237 = false) (h4 : wi s.data.toList p 224 239 = false) (h5 : wi s.data.toList p 240 240 = false) (h6 : wi s.data.toList p 244 244 = false) (h7 : wi s.data.toList p 240 244 = true) (h8 : wi s.data.toList (p + 1) 128 191 = false) :
    Calls Tryz.prog 116 #[.string s, .int .i64 (p : Int)] w fun e w' => e = .returned (.int .i64 0) ∧ w = w' := by
  have H0 := Lib.hid h0
  have H1 := Lib.hid h1
  have H2 := Lib.hid h2
  have H3 := Lib.hid h3
  have H4 := Lib.hid h4
  have H5 := Lib.hid h5
  have H6 := Lib.hid h6
  have H7 := Lib.hid h7
  have H8 := Lib.hid h8
  clear h0 h1 h2 h3 h4 h5 h6 h7 h8
  have s1 : IntKind.i64.wrap ((p : Int) + 1) = (p : Int) + 1 := IntWalk.i64_in _ (by omega)
  have s2 : IntKind.i64.wrap ((p : Int) + 2) = (p : Int) + 2 := IntWalk.i64_in _ (by omega)
  have s3 : IntKind.i64.wrap ((p : Int) + 3) = (p : Int) + 3 := IntWalk.i64_in _ (by omega)
  go_enter Tryz.func116, Tryz.ntmps116
  go_wp2_with fail
  refine (within_is H0.out hs (by omega) (by omega) rfl rfl (by omega) (by omega)).mono ?_; rintro e w1 ⟨rfl, rfl⟩
  go_wp2_with fail
  refine (within_is H1.out hs (by omega) (by omega) rfl rfl (by omega) (by omega)).mono ?_; rintro e w1 ⟨rfl, rfl⟩
  go_wp2_with fail
  refine (within_is H2.out hs (by omega) (by omega) rfl rfl (by omega) (by omega)).mono ?_; rintro e w1 ⟨rfl, rfl⟩
  go_wp2_with fail
  refine (within_is H3.out hs (by omega) (by omega) rfl rfl (by omega) (by omega)).mono ?_; rintro e w1 ⟨rfl, rfl⟩
  go_wp2_with fail
  refine (within_is H4.out hs (by omega) (by omega) rfl rfl (by omega) (by omega)).mono ?_; rintro e w1 ⟨rfl, rfl⟩
  go_wp2_with fail
  refine (within_is H5.out hs (by omega) (by omega) rfl rfl (by omega) (by omega)).mono ?_; rintro e w1 ⟨rfl, rfl⟩
  go_wp2_with fail
  refine (within_is H6.out hs (by omega) (by omega) rfl rfl (by omega) (by omega)).mono ?_; rintro e w1 ⟨rfl, rfl⟩
  go_wp2_with fail
  refine (within_is H7.out hs (by omega) (by omega) rfl rfl (by omega) (by omega)).mono ?_; rintro e w1 ⟨rfl, rfl⟩
  go_wp2_with fail
  refine (within_is H8.out hs (by omega) (by omega) rfl rfl (by omega) (by omega)).mono ?_; rintro e w1 ⟨rfl, rfl⟩
  go_wp2_with fail
  go_ret
  exact ⟨rfl, rfl⟩
set_option maxHeartbeats 1000000 in
theorem ch_none (s : ByteArray) (p : Nat) (w : World) (hs : s.size ≤ 1099511627776) (hp : p ≤ 1099511627776) (h0 : wi s.data.toList p 0 127 = false) (h1 : wi s.data.toList p 194 223 = false) (h2 : wi s.data.toList p 224 224 = false) (h3 : wi s.data.toList p 237 237 = false) (h4 : wi s.data.toList p 224 239 = false) (h5 : wi s.data.toList p 240 240 = false) (h6 : wi s.data.toList p 244 244 = false) (h7 : wi s.data.toList p 240 244 = false) :
    Calls Tryz.prog 116 #[.string s, .int .i64 (p : Int)] w fun e w' => e = .returned (.int .i64 0) ∧ w = w' := by
  have H0 := Lib.hid h0
  have H1 := Lib.hid h1
  have H2 := Lib.hid h2
  have H3 := Lib.hid h3
  have H4 := Lib.hid h4
  have H5 := Lib.hid h5
  have H6 := Lib.hid h6
  have H7 := Lib.hid h7
  clear h0 h1 h2 h3 h4 h5 h6 h7
  have s1 : IntKind.i64.wrap ((p : Int) + 1) = (p : Int) + 1 := IntWalk.i64_in _ (by omega)
  have s2 : IntKind.i64.wrap ((p : Int) + 2) = (p : Int) + 2 := IntWalk.i64_in _ (by omega)
  have s3 : IntKind.i64.wrap ((p : Int) + 3) = (p : Int) + 3 := IntWalk.i64_in _ (by omega)
  go_enter Tryz.func116, Tryz.ntmps116
  go_wp2_with fail
  refine (within_is H0.out hs (by omega) (by omega) rfl rfl (by omega) (by omega)).mono ?_; rintro e w1 ⟨rfl, rfl⟩
  go_wp2_with fail
  refine (within_is H1.out hs (by omega) (by omega) rfl rfl (by omega) (by omega)).mono ?_; rintro e w1 ⟨rfl, rfl⟩
  go_wp2_with fail
  refine (within_is H2.out hs (by omega) (by omega) rfl rfl (by omega) (by omega)).mono ?_; rintro e w1 ⟨rfl, rfl⟩
  go_wp2_with fail
  refine (within_is H3.out hs (by omega) (by omega) rfl rfl (by omega) (by omega)).mono ?_; rintro e w1 ⟨rfl, rfl⟩
  go_wp2_with fail
  refine (within_is H4.out hs (by omega) (by omega) rfl rfl (by omega) (by omega)).mono ?_; rintro e w1 ⟨rfl, rfl⟩
  go_wp2_with fail
  refine (within_is H5.out hs (by omega) (by omega) rfl rfl (by omega) (by omega)).mono ?_; rintro e w1 ⟨rfl, rfl⟩
  go_wp2_with fail
  refine (within_is H6.out hs (by omega) (by omega) rfl rfl (by omega) (by omega)).mono ?_; rintro e w1 ⟨rfl, rfl⟩
  go_wp2_with fail
  refine (within_is H7.out hs (by omega) (by omega) rfl rfl (by omega) (by omega)).mono ?_; rintro e w1 ⟨rfl, rfl⟩
  go_wp2_with fail
  go_ret
  exact ⟨rfl, rfl⟩
end Go.Proofs.YtmcekhgmmocajaaGreatDoor
namespace Go.Proofs.YtmcekhgmmocajaaGreatDoor
open Go.RowKit Me

set_option maxHeartbeats 4000000 in
theorem char_any (s : ByteArray) (p : Nat) (w : World) (hs : s.size ≤ 1099511627776) (hp : p ≤ s.size) :
    Calls Tryz.prog 116 #[.string s, .int .i64 (p : Int)] w fun e w' => e = .returned (.int .i64 (Tx.chr (s.data.toList.drop p) : Int)) ∧ w = w' := by
  have hp' : p ≤ 1099511627776 := by omega
  by_cases hlt : p < s.data.toList.length
  · have hC : Tx.chr (s.data.toList.drop p) = Tx.chrN (s.data.toList.length - p) (Tx.bt s.data.toList p) (Tx.bt s.data.toList (p + 1)) (Tx.bt s.data.toList (p + 2)) (Tx.bt s.data.toList (p + 3)) := by
      rw [Tx.chr_of_ne (by intro h; have := congrArg List.length h; simp at this; rw [size_list] at hlt; omega), List.length_drop, Tx.bt_drop, Tx.bt_drop, Tx.bt_drop, Tx.bt_drop, Nat.add_zero]
    by_cases c1 : Tx.bt s.data.toList p < 128
    ·
      have e : Tx.chr (s.data.toList.drop p) = 1 := by
        rw [hC]
        unfold Tx.chrN
        repeat' split
        all_goals first | rfl | omega
      rw [e]
      exact ch_one s p w hs hp' (by simp only [wi]; exact decide_eq_true (by omega))
    by_cases c2 : 194 ≤ Tx.bt s.data.toList p ∧ Tx.bt s.data.toList p ≤ 223
    · by_cases d1 : p + 1 < s.data.toList.length ∧ 128 ≤ Tx.bt s.data.toList (p + 1) ∧ Tx.bt s.data.toList (p + 1) ≤ 191
      ·
        have e : Tx.chr (s.data.toList.drop p) = 2 := by
          rw [hC]
          unfold Tx.chrN
          repeat' split
          all_goals first | rfl | omega
        rw [e]
        exact ch_two s p w hs hp' (by simp only [wi]; exact decide_eq_false (by omega)) (by simp only [wi]; exact decide_eq_true (by omega)) (by simp only [wi]; exact decide_eq_true (by omega))
      ·
        have e : Tx.chr (s.data.toList.drop p) = 0 := by
          rw [hC]
          unfold Tx.chrN
          repeat' split
          all_goals first | rfl | omega
        rw [e]
        exact ch_twoX s p w hs hp' (by simp only [wi]; exact decide_eq_false (by omega)) (by simp only [wi]; exact decide_eq_true (by omega)) (by simp only [wi]; exact decide_eq_false (by omega)) (by simp only [wi]; exact decide_eq_false (by omega)) (by simp only [wi]; exact decide_eq_false (by omega)) (by simp only [wi]; exact decide_eq_false (by omega)) (by simp only [wi]; exact decide_eq_false (by omega)) (by simp only [wi]; exact decide_eq_false (by omega)) (by simp only [wi]; exact decide_eq_false (by omega))
    by_cases c_e0 : Tx.bt s.data.toList p = 224
    · by_cases d1 : p + 1 < s.data.toList.length ∧ 160 ≤ Tx.bt s.data.toList (p + 1) ∧ Tx.bt s.data.toList (p + 1) ≤ 191
      · by_cases d2 : p + 2 < s.data.toList.length ∧ 128 ≤ Tx.bt s.data.toList (p + 2) ∧ Tx.bt s.data.toList (p + 2) ≤ 191
        ·
          have e : Tx.chr (s.data.toList.drop p) = 3 := by
            rw [hC]
            unfold Tx.chrN
            repeat' split
            all_goals first | rfl | omega
          rw [e]
          exact ch_e0_tt s p w hs hp' (by simp only [wi]; exact decide_eq_false (by omega)) (by simp only [wi]; exact decide_eq_false (by omega)) (by simp only [wi]; exact decide_eq_true (by omega)) (by simp only [wi]; exact decide_eq_false (by omega)) (by simp only [wi]; exact decide_eq_true (by omega)) (by simp only [wi]; exact decide_eq_true (by omega)) (by simp only [wi]; exact decide_eq_true (by omega))
        ·
          have e : Tx.chr (s.data.toList.drop p) = 0 := by
            rw [hC]
            unfold Tx.chrN
            repeat' split
            all_goals first | rfl | omega
          rw [e]
          exact ch_e0_tf s p w hs hp' (by simp only [wi]; exact decide_eq_false (by omega)) (by simp only [wi]; exact decide_eq_false (by omega)) (by simp only [wi]; exact decide_eq_true (by omega)) (by simp only [wi]; exact decide_eq_false (by omega)) (by simp only [wi]; exact decide_eq_true (by omega)) (by simp only [wi]; exact decide_eq_true (by omega)) (by simp only [wi]; exact decide_eq_false (by omega)) (by simp only [wi]; exact decide_eq_false (by omega)) (by simp only [wi]; exact decide_eq_false (by omega)) (by simp only [wi]; exact decide_eq_false (by omega))
      ·
        have e : Tx.chr (s.data.toList.drop p) = 0 := by
          rw [hC]
          unfold Tx.chrN
          repeat' split
          all_goals first | rfl | omega
        rw [e]
        exact ch_e0_f s p w hs hp' (by simp only [wi]; exact decide_eq_false (by omega)) (by simp only [wi]; exact decide_eq_false (by omega)) (by simp only [wi]; exact decide_eq_true (by omega)) (by simp only [wi]; exact decide_eq_false (by omega)) (by simp only [wi]; exact decide_eq_true (by omega)) (by simp only [wi]; exact decide_eq_false (by omega)) (by simp only [wi]; exact decide_eq_false (by omega)) (by simp only [wi]; exact decide_eq_false (by omega)) (by simp only [wi]; exact decide_eq_false (by omega))
    by_cases c_ed : Tx.bt s.data.toList p = 237
    · by_cases d1 : p + 1 < s.data.toList.length ∧ 128 ≤ Tx.bt s.data.toList (p + 1) ∧ Tx.bt s.data.toList (p + 1) ≤ 159
      · by_cases d2 : p + 2 < s.data.toList.length ∧ 128 ≤ Tx.bt s.data.toList (p + 2) ∧ Tx.bt s.data.toList (p + 2) ≤ 191
        ·
          have e : Tx.chr (s.data.toList.drop p) = 3 := by
            rw [hC]
            unfold Tx.chrN
            repeat' split
            all_goals first | rfl | omega
          rw [e]
          exact ch_ed_tt s p w hs hp' (by simp only [wi]; exact decide_eq_false (by omega)) (by simp only [wi]; exact decide_eq_false (by omega)) (by simp only [wi]; exact decide_eq_false (by omega)) (by simp only [wi]; exact decide_eq_true (by omega)) (by simp only [wi]; exact decide_eq_true (by omega)) (by simp only [wi]; exact decide_eq_true (by omega)) (by simp only [wi]; exact decide_eq_true (by omega))
        ·
          have e : Tx.chr (s.data.toList.drop p) = 0 := by
            rw [hC]
            unfold Tx.chrN
            repeat' split
            all_goals first | rfl | omega
          rw [e]
          exact ch_ed_tf s p w hs hp' (by simp only [wi]; exact decide_eq_false (by omega)) (by simp only [wi]; exact decide_eq_false (by omega)) (by simp only [wi]; exact decide_eq_false (by omega)) (by simp only [wi]; exact decide_eq_true (by omega)) (by simp only [wi]; exact decide_eq_true (by omega)) (by simp only [wi]; exact decide_eq_true (by omega)) (by simp only [wi]; exact decide_eq_false (by omega)) (by simp only [wi]; exact decide_eq_false (by omega)) (by simp only [wi]; exact decide_eq_false (by omega)) (by simp only [wi]; exact decide_eq_false (by omega))
      ·
        have e : Tx.chr (s.data.toList.drop p) = 0 := by
          rw [hC]
          unfold Tx.chrN
          repeat' split
          all_goals first | rfl | omega
        rw [e]
        exact ch_ed_f s p w hs hp' (by simp only [wi]; exact decide_eq_false (by omega)) (by simp only [wi]; exact decide_eq_false (by omega)) (by simp only [wi]; exact decide_eq_false (by omega)) (by simp only [wi]; exact decide_eq_true (by omega)) (by simp only [wi]; exact decide_eq_true (by omega)) (by simp only [wi]; exact decide_eq_false (by omega)) (by simp only [wi]; exact decide_eq_false (by omega)) (by simp only [wi]; exact decide_eq_false (by omega)) (by simp only [wi]; exact decide_eq_false (by omega))
    by_cases c_ex : 224 ≤ Tx.bt s.data.toList p ∧ Tx.bt s.data.toList p ≤ 239
    · by_cases d1 : p + 1 < s.data.toList.length ∧ 128 ≤ Tx.bt s.data.toList (p + 1) ∧ Tx.bt s.data.toList (p + 1) ≤ 191
      · by_cases d2 : p + 2 < s.data.toList.length ∧ 128 ≤ Tx.bt s.data.toList (p + 2) ∧ Tx.bt s.data.toList (p + 2) ≤ 191
        ·
          have e : Tx.chr (s.data.toList.drop p) = 3 := by
            rw [hC]
            unfold Tx.chrN
            repeat' split
            all_goals first | rfl | omega
          rw [e]
          exact ch_ex_tt s p w hs hp' (by simp only [wi]; exact decide_eq_false (by omega)) (by simp only [wi]; exact decide_eq_false (by omega)) (by simp only [wi]; exact decide_eq_false (by omega)) (by simp only [wi]; exact decide_eq_false (by omega)) (by simp only [wi]; exact decide_eq_true (by omega)) (by simp only [wi]; exact decide_eq_true (by omega)) (by simp only [wi]; exact decide_eq_true (by omega))
        ·
          have e : Tx.chr (s.data.toList.drop p) = 0 := by
            rw [hC]
            unfold Tx.chrN
            repeat' split
            all_goals first | rfl | omega
          rw [e]
          exact ch_ex_tf s p w hs hp' (by simp only [wi]; exact decide_eq_false (by omega)) (by simp only [wi]; exact decide_eq_false (by omega)) (by simp only [wi]; exact decide_eq_false (by omega)) (by simp only [wi]; exact decide_eq_false (by omega)) (by simp only [wi]; exact decide_eq_true (by omega)) (by simp only [wi]; exact decide_eq_true (by omega)) (by simp only [wi]; exact decide_eq_false (by omega)) (by simp only [wi]; exact decide_eq_false (by omega)) (by simp only [wi]; exact decide_eq_false (by omega)) (by simp only [wi]; exact decide_eq_false (by omega))
      ·
        have e : Tx.chr (s.data.toList.drop p) = 0 := by
          rw [hC]
          unfold Tx.chrN
          repeat' split
          all_goals first | rfl | omega
        rw [e]
        exact ch_ex_f s p w hs hp' (by simp only [wi]; exact decide_eq_false (by omega)) (by simp only [wi]; exact decide_eq_false (by omega)) (by simp only [wi]; exact decide_eq_false (by omega)) (by simp only [wi]; exact decide_eq_false (by omega)) (by simp only [wi]; exact decide_eq_true (by omega)) (by simp only [wi]; exact decide_eq_false (by omega)) (by simp only [wi]; exact decide_eq_false (by omega)) (by simp only [wi]; exact decide_eq_false (by omega)) (by simp only [wi]; exact decide_eq_false (by omega))
    by_cases c_f0 : Tx.bt s.data.toList p = 240
    · by_cases d1 : p + 1 < s.data.toList.length ∧ 144 ≤ Tx.bt s.data.toList (p + 1) ∧ Tx.bt s.data.toList (p + 1) ≤ 191
      · by_cases d2 : p + 2 < s.data.toList.length ∧ 128 ≤ Tx.bt s.data.toList (p + 2) ∧ Tx.bt s.data.toList (p + 2) ≤ 191
        · by_cases d3 : p + 3 < s.data.toList.length ∧ 128 ≤ Tx.bt s.data.toList (p + 3) ∧ Tx.bt s.data.toList (p + 3) ≤ 191
          ·
            have e : Tx.chr (s.data.toList.drop p) = 4 := by
              rw [hC]
              unfold Tx.chrN
              repeat' split
              all_goals first | rfl | omega
            rw [e]
            exact ch_f0_ttt s p w hs hp' (by simp only [wi]; exact decide_eq_false (by omega)) (by simp only [wi]; exact decide_eq_false (by omega)) (by simp only [wi]; exact decide_eq_false (by omega)) (by simp only [wi]; exact decide_eq_false (by omega)) (by simp only [wi]; exact decide_eq_false (by omega)) (by simp only [wi]; exact decide_eq_true (by omega)) (by simp only [wi]; exact decide_eq_false (by omega)) (by simp only [wi]; exact decide_eq_true (by omega)) (by simp only [wi]; exact decide_eq_true (by omega)) (by simp only [wi]; exact decide_eq_true (by omega)) (by simp only [wi]; exact decide_eq_true (by omega))
          ·
            have e : Tx.chr (s.data.toList.drop p) = 0 := by
              rw [hC]
              unfold Tx.chrN
              repeat' split
              all_goals first | rfl | omega
            rw [e]
            exact ch_f0_ttf s p w hs hp' (by simp only [wi]; exact decide_eq_false (by omega)) (by simp only [wi]; exact decide_eq_false (by omega)) (by simp only [wi]; exact decide_eq_false (by omega)) (by simp only [wi]; exact decide_eq_false (by omega)) (by simp only [wi]; exact decide_eq_false (by omega)) (by simp only [wi]; exact decide_eq_true (by omega)) (by simp only [wi]; exact decide_eq_false (by omega)) (by simp only [wi]; exact decide_eq_true (by omega)) (by simp only [wi]; exact decide_eq_true (by omega)) (by simp only [wi]; exact decide_eq_true (by omega)) (by simp only [wi]; exact decide_eq_false (by omega))
        ·
          have e : Tx.chr (s.data.toList.drop p) = 0 := by
            rw [hC]
            unfold Tx.chrN
            repeat' split
            all_goals first | rfl | omega
          rw [e]
          exact ch_f0_tf s p w hs hp' (by simp only [wi]; exact decide_eq_false (by omega)) (by simp only [wi]; exact decide_eq_false (by omega)) (by simp only [wi]; exact decide_eq_false (by omega)) (by simp only [wi]; exact decide_eq_false (by omega)) (by simp only [wi]; exact decide_eq_false (by omega)) (by simp only [wi]; exact decide_eq_true (by omega)) (by simp only [wi]; exact decide_eq_false (by omega)) (by simp only [wi]; exact decide_eq_true (by omega)) (by simp only [wi]; exact decide_eq_true (by omega)) (by simp only [wi]; exact decide_eq_false (by omega))
      ·
        have e : Tx.chr (s.data.toList.drop p) = 0 := by
          rw [hC]
          unfold Tx.chrN
          repeat' split
          all_goals first | rfl | omega
        rw [e]
        exact ch_f0_f s p w hs hp' (by simp only [wi]; exact decide_eq_false (by omega)) (by simp only [wi]; exact decide_eq_false (by omega)) (by simp only [wi]; exact decide_eq_false (by omega)) (by simp only [wi]; exact decide_eq_false (by omega)) (by simp only [wi]; exact decide_eq_false (by omega)) (by simp only [wi]; exact decide_eq_true (by omega)) (by simp only [wi]; exact decide_eq_false (by omega)) (by simp only [wi]; exact decide_eq_true (by omega)) (by simp only [wi]; exact decide_eq_false (by omega))
    by_cases c_f4 : Tx.bt s.data.toList p = 244
    · by_cases d1 : p + 1 < s.data.toList.length ∧ 128 ≤ Tx.bt s.data.toList (p + 1) ∧ Tx.bt s.data.toList (p + 1) ≤ 143
      · by_cases d2 : p + 2 < s.data.toList.length ∧ 128 ≤ Tx.bt s.data.toList (p + 2) ∧ Tx.bt s.data.toList (p + 2) ≤ 191
        · by_cases d3 : p + 3 < s.data.toList.length ∧ 128 ≤ Tx.bt s.data.toList (p + 3) ∧ Tx.bt s.data.toList (p + 3) ≤ 191
          ·
            have e : Tx.chr (s.data.toList.drop p) = 4 := by
              rw [hC]
              unfold Tx.chrN
              repeat' split
              all_goals first | rfl | omega
            rw [e]
            exact ch_f4_ttt s p w hs hp' (by simp only [wi]; exact decide_eq_false (by omega)) (by simp only [wi]; exact decide_eq_false (by omega)) (by simp only [wi]; exact decide_eq_false (by omega)) (by simp only [wi]; exact decide_eq_false (by omega)) (by simp only [wi]; exact decide_eq_false (by omega)) (by simp only [wi]; exact decide_eq_false (by omega)) (by simp only [wi]; exact decide_eq_true (by omega)) (by simp only [wi]; exact decide_eq_true (by omega)) (by simp only [wi]; exact decide_eq_true (by omega)) (by simp only [wi]; exact decide_eq_true (by omega)) (by simp only [wi]; exact decide_eq_true (by omega))
          ·
            have e : Tx.chr (s.data.toList.drop p) = 0 := by
              rw [hC]
              unfold Tx.chrN
              repeat' split
              all_goals first | rfl | omega
            rw [e]
            exact ch_f4_ttf s p w hs hp' (by simp only [wi]; exact decide_eq_false (by omega)) (by simp only [wi]; exact decide_eq_false (by omega)) (by simp only [wi]; exact decide_eq_false (by omega)) (by simp only [wi]; exact decide_eq_false (by omega)) (by simp only [wi]; exact decide_eq_false (by omega)) (by simp only [wi]; exact decide_eq_false (by omega)) (by simp only [wi]; exact decide_eq_true (by omega)) (by simp only [wi]; exact decide_eq_true (by omega)) (by simp only [wi]; exact decide_eq_true (by omega)) (by simp only [wi]; exact decide_eq_true (by omega)) (by simp only [wi]; exact decide_eq_false (by omega))
        ·
          have e : Tx.chr (s.data.toList.drop p) = 0 := by
            rw [hC]
            unfold Tx.chrN
            repeat' split
            all_goals first | rfl | omega
          rw [e]
          exact ch_f4_tf s p w hs hp' (by simp only [wi]; exact decide_eq_false (by omega)) (by simp only [wi]; exact decide_eq_false (by omega)) (by simp only [wi]; exact decide_eq_false (by omega)) (by simp only [wi]; exact decide_eq_false (by omega)) (by simp only [wi]; exact decide_eq_false (by omega)) (by simp only [wi]; exact decide_eq_false (by omega)) (by simp only [wi]; exact decide_eq_true (by omega)) (by simp only [wi]; exact decide_eq_true (by omega)) (by simp only [wi]; exact decide_eq_true (by omega)) (by simp only [wi]; exact decide_eq_false (by omega))
      ·
        have e : Tx.chr (s.data.toList.drop p) = 0 := by
          rw [hC]
          unfold Tx.chrN
          repeat' split
          all_goals first | rfl | omega
        rw [e]
        exact ch_f4_f s p w hs hp' (by simp only [wi]; exact decide_eq_false (by omega)) (by simp only [wi]; exact decide_eq_false (by omega)) (by simp only [wi]; exact decide_eq_false (by omega)) (by simp only [wi]; exact decide_eq_false (by omega)) (by simp only [wi]; exact decide_eq_false (by omega)) (by simp only [wi]; exact decide_eq_false (by omega)) (by simp only [wi]; exact decide_eq_true (by omega)) (by simp only [wi]; exact decide_eq_true (by omega)) (by simp only [wi]; exact decide_eq_false (by omega))
    by_cases c_fx : 240 ≤ Tx.bt s.data.toList p ∧ Tx.bt s.data.toList p ≤ 244
    · by_cases d1 : p + 1 < s.data.toList.length ∧ 128 ≤ Tx.bt s.data.toList (p + 1) ∧ Tx.bt s.data.toList (p + 1) ≤ 191
      · by_cases d2 : p + 2 < s.data.toList.length ∧ 128 ≤ Tx.bt s.data.toList (p + 2) ∧ Tx.bt s.data.toList (p + 2) ≤ 191
        · by_cases d3 : p + 3 < s.data.toList.length ∧ 128 ≤ Tx.bt s.data.toList (p + 3) ∧ Tx.bt s.data.toList (p + 3) ≤ 191
          ·
            have e : Tx.chr (s.data.toList.drop p) = 4 := by
              rw [hC]
              unfold Tx.chrN
              repeat' split
              all_goals first | rfl | omega
            rw [e]
            exact ch_fx_ttt s p w hs hp' (by simp only [wi]; exact decide_eq_false (by omega)) (by simp only [wi]; exact decide_eq_false (by omega)) (by simp only [wi]; exact decide_eq_false (by omega)) (by simp only [wi]; exact decide_eq_false (by omega)) (by simp only [wi]; exact decide_eq_false (by omega)) (by simp only [wi]; exact decide_eq_false (by omega)) (by simp only [wi]; exact decide_eq_false (by omega)) (by simp only [wi]; exact decide_eq_true (by omega)) (by simp only [wi]; exact decide_eq_true (by omega)) (by simp only [wi]; exact decide_eq_true (by omega)) (by simp only [wi]; exact decide_eq_true (by omega))
          ·
            have e : Tx.chr (s.data.toList.drop p) = 0 := by
              rw [hC]
              unfold Tx.chrN
              repeat' split
              all_goals first | rfl | omega
            rw [e]
            exact ch_fx_ttf s p w hs hp' (by simp only [wi]; exact decide_eq_false (by omega)) (by simp only [wi]; exact decide_eq_false (by omega)) (by simp only [wi]; exact decide_eq_false (by omega)) (by simp only [wi]; exact decide_eq_false (by omega)) (by simp only [wi]; exact decide_eq_false (by omega)) (by simp only [wi]; exact decide_eq_false (by omega)) (by simp only [wi]; exact decide_eq_false (by omega)) (by simp only [wi]; exact decide_eq_true (by omega)) (by simp only [wi]; exact decide_eq_true (by omega)) (by simp only [wi]; exact decide_eq_true (by omega)) (by simp only [wi]; exact decide_eq_false (by omega))
        ·
          have e : Tx.chr (s.data.toList.drop p) = 0 := by
            rw [hC]
            unfold Tx.chrN
            repeat' split
            all_goals first | rfl | omega
          rw [e]
          exact ch_fx_tf s p w hs hp' (by simp only [wi]; exact decide_eq_false (by omega)) (by simp only [wi]; exact decide_eq_false (by omega)) (by simp only [wi]; exact decide_eq_false (by omega)) (by simp only [wi]; exact decide_eq_false (by omega)) (by simp only [wi]; exact decide_eq_false (by omega)) (by simp only [wi]; exact decide_eq_false (by omega)) (by simp only [wi]; exact decide_eq_false (by omega)) (by simp only [wi]; exact decide_eq_true (by omega)) (by simp only [wi]; exact decide_eq_true (by omega)) (by simp only [wi]; exact decide_eq_false (by omega))
      ·
        have e : Tx.chr (s.data.toList.drop p) = 0 := by
          rw [hC]
          unfold Tx.chrN
          repeat' split
          all_goals first | rfl | omega
        rw [e]
        exact ch_fx_f s p w hs hp' (by simp only [wi]; exact decide_eq_false (by omega)) (by simp only [wi]; exact decide_eq_false (by omega)) (by simp only [wi]; exact decide_eq_false (by omega)) (by simp only [wi]; exact decide_eq_false (by omega)) (by simp only [wi]; exact decide_eq_false (by omega)) (by simp only [wi]; exact decide_eq_false (by omega)) (by simp only [wi]; exact decide_eq_false (by omega)) (by simp only [wi]; exact decide_eq_true (by omega)) (by simp only [wi]; exact decide_eq_false (by omega))
    have e : Tx.chr (s.data.toList.drop p) = 0 := by
      rw [hC]
      unfold Tx.chrN
      repeat' split
      all_goals first | rfl | omega
    rw [e]
    exact ch_none s p w hs hp' (by simp only [wi]; exact decide_eq_false (by omega)) (by simp only [wi]; exact decide_eq_false (by omega)) (by simp only [wi]; exact decide_eq_false (by omega)) (by simp only [wi]; exact decide_eq_false (by omega)) (by simp only [wi]; exact decide_eq_false (by omega)) (by simp only [wi]; exact decide_eq_false (by omega)) (by simp only [wi]; exact decide_eq_false (by omega)) (by simp only [wi]; exact decide_eq_false (by omega))
  · have e : Tx.chr (s.data.toList.drop p) = 0 := by rw [List.drop_of_length_le (by omega)]; rfl
    rw [e]
    exact ch_none s p w hs hp' (by simp only [wi]; exact decide_eq_false (by omega)) (by simp only [wi]; exact decide_eq_false (by omega)) (by simp only [wi]; exact decide_eq_false (by omega)) (by simp only [wi]; exact decide_eq_false (by omega)) (by simp only [wi]; exact decide_eq_false (by omega)) (by simp only [wi]; exact decide_eq_false (by omega)) (by simp only [wi]; exact decide_eq_false (by omega)) (by simp only [wi]; exact decide_eq_false (by omega))
end Go.Proofs.YtmcekhgmmocajaaGreatDoor
namespace Go.Proofs.YtmcekhgmmocajaaGreatDoor
open Go.RowKit Me

def RelBadR (s : ByteArray) (w : World) (i : Value) (wr : World) : Prop := ∃ p : Nat, p ≤ s.size ∧ i = .int .i64 p ∧ Tx.badL s.data.toList = p + Tx.badL (s.data.toList.drop p) ∧ w = wr
theorem bt_zero (s : ByteArray) (p : Nat) (h : p < s.size) : Tx.bt (s.data.toList.drop p) 0 = (s[p]'h).toNat := by rw [Tx.bt_drop, str_bt s p h]; rfl

set_option maxRecDepth 100000 in
set_option maxHeartbeats 1000000 in
theorem rbad_any (s : ByteArray) (w : World) (hs : s.size ≤ 1099511627776) :
    Calls Tryz.prog 100 #[.string s] w fun e w' => e = .returned (.int .i64 (Tx.badL s.data.toList : Int)) ∧ w = w' := by
  go_enter Tryz.func100, Tryz.ntmps100
  go_wp2_with fail
  go_loopw [3] (fun i wr => RelBadR s w i wr) (fun i _ => s.size - (intOf i).toNat)
  case atStart => exact ⟨0, Nat.zero_le _, rfl, by simp, rfl⟩
  case round =>
    obtain ⟨p, hp, rfl, hb, rfl⟩ := hrel
    have HB := Lib.hid hb
    clear hb
    rcases Nat.lt_or_ge p s.size with hlt | hge
    · have hle := (Tx.chr_le (s.data.toList.drop p)).1
      rw [List.length_drop, size_list] at hle
      have hz := bt_zero s p hlt
      have HBB := Lib.hid (@Tx.badL_bad (s.data.toList.drop p))
      have HBG := Lib.hid (@Tx.badL_good (s.data.toList.drop p))
      have HC := Lib.hid (char_any s p w hs hp)
      rw [hz] at HBB HBG
      clear hz
      generalize hcc : Tx.chr (s.data.toList.drop p) = n at *
      have HCC := Lib.hid hcc
      clear hcc
      by_cases hn : n = 0
      · subst hn
        have hbd := HBB.out (Or.inl rfl)
        have HD := Lib.hid hbd
        clear hbd
        go_wp2_with fail
        refine HC.out.mono ?_; rintro e w1 ⟨rfl, rfl⟩
        go_wp2_with fail
        go_ret
        exact ⟨by rw [HB.out, HD.out]; rfl, rfl⟩
      · have hn' : ((n : Int) == 0) = false := by rw [beq_eq_false_iff_ne]; omega
        by_cases h0 : s[p].toNat = 0
        · have hbd := HBB.out (Or.inr h0)
          have HD := Lib.hid hbd
          clear hbd
          go_wp2_with fail
          refine HC.out.mono ?_; rintro e w1 ⟨rfl, rfl⟩
          go_wp2_with fail
          go_ret
          exact ⟨by rw [HB.out, HD.out]; rfl, rfl⟩
        · have hbd := HBG.out hn h0
          have HD := Lib.hid hbd
          clear hbd
          have h0' : ((s[p].toNat : Int) == 0) = false := by rw [beq_eq_false_iff_ne]; omega
          go_wp2_with fail
          refine HC.out.mono ?_; rintro e w1 ⟨rfl, rfl⟩
          go_wp2_with fail
          exact ⟨⟨p + n, by omega, rfl, by rw [HB.out, HD.out, List.drop_drop]; omega, rfl⟩, by simp only [intOf]; omega⟩
    · obtain rfl : p = s.size := by omega
      go_wp2_with fail
      go_ret
      refine ⟨?_, rfl⟩
      have hd : s.data.toList.drop s.size = [] := List.drop_of_length_le (by rw [size_list]; omega)
      rw [HB.out, hd, Tx.badL_nil]
      rfl
theorem good_badL (l : List UInt8) : decide (Tx.badL l = l.length) = Tx.good l := by
  by_cases h : Tx.badL l = l.length <;> simp [Tx.good, h]
theorem rgood_any (s : ByteArray) (w : World) (hs : s.size ≤ 1099511627776) :
    Calls Tryz.prog 63 #[.string s] w fun e w' => e = .returned (.bool (Tx.good s.data.toList)) ∧ w = w' := by
  have HG := Lib.hid (good_badL s.data.toList)
  have HB := Lib.hid (rbad_any s w hs)
  generalize Tx.badL s.data.toList = n at *
  go_enter Tryz.func63, Tryz.ntmps63
  go_wp2_with fail
  refine HB.out.mono ?_; rintro e w1 ⟨rfl, rfl⟩
  go_wp2_with fail
  go_ret
  refine ⟨?_, rfl⟩
  rw [← HG.out, size_list]
  by_cases h : n = s.size
  · subst h; simp
  · have h2 : ((n : Int) == (s.size : Int)) = false := by rw [beq_eq_false_iff_ne]; omega
    simp [h, h2]

end Go.Proofs.YtmcekhgmmocajaaGreatDoor
