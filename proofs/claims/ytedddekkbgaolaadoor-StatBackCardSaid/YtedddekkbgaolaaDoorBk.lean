/- The walk of StatBack. (Printed by wip/bin/genback.py.) -/
import Derived.Test.YtedddekkbgaolaaDoorRe2
namespace Go.Proofs.YtedddekkbgaolaaDoor
open Go.RowKit Me

theorem encode_snd (s : StatP) : s.encode.2 = s.err := by
  unfold StatP.encode
  by_cases h : s.err = 0
  · rw [if_neg (by omega), h]
  · rw [if_pos h]
set_option maxHeartbeats 1000000 in
theorem writes_any {w : World} (s : StatP) (hs : s.Fits) (hz : s.size ≤ 268435456) (b : Bool) (hb : decide (s.err = 0) = b) :
    Calls Tryd.prog 55 #[.agg (statV s)] w fun e w' => e = .returned (.bool b) ∧ Mods [] w w' := by
  have B0 := Lib.hid (heap_alloc_new w (.cells (statV s) 90))
  have M0 := Lib.hid ((Mods.refl [] w).alloc (.cells (statV s) 90))
  have HS := Lib.hid hs
  have he : ((s.err : Int) == 0) = b := by
    rw [← hb, Bool.eq_iff_iff, beq_iff_eq, decide_eq_true_iff]
    omega
  have HE := Lib.hid he
  clear hs hb he
  have c0 : (w.alloc (.cells (statV s) 90)).cell? ⟨w.heap.size, 0, none⟩ = some (.int .u16 (s.typ : Int)) := (cell_of_row _ _ _ _ _ _ B0.out).trans rfl
  have c1 : (w.alloc (.cells (statV s) 90)).cell? ⟨w.heap.size, 1, none⟩ = some (.int .u32 (s.dev : Int)) := (cell_of_row _ _ _ _ _ _ B0.out).trans rfl
  have c2 : (w.alloc (.cells (statV s) 90)).cell? ⟨w.heap.size, 2, none⟩ = some (.int .u8 (s.qid.kind : Int)) := (cell_of_row _ _ _ _ _ _ B0.out).trans rfl
  have c3 : (w.alloc (.cells (statV s) 90)).cell? ⟨w.heap.size, 3, none⟩ = some (.int .u32 (s.qid.vers : Int)) := (cell_of_row _ _ _ _ _ _ B0.out).trans rfl
  have c4 : (w.alloc (.cells (statV s) 90)).cell? ⟨w.heap.size, 4, none⟩ = some (.int .u64 (s.qid.path : Int)) := (cell_of_row _ _ _ _ _ _ B0.out).trans rfl
  have c5 : (w.alloc (.cells (statV s) 90)).cell? ⟨w.heap.size, 5, none⟩ = some (.int .u32 (s.mode : Int)) := (cell_of_row _ _ _ _ _ _ B0.out).trans rfl
  have c6 : (w.alloc (.cells (statV s) 90)).cell? ⟨w.heap.size, 6, none⟩ = some (.int .u32 (s.atime : Int)) := (cell_of_row _ _ _ _ _ _ B0.out).trans rfl
  have c7 : (w.alloc (.cells (statV s) 90)).cell? ⟨w.heap.size, 7, none⟩ = some (.int .u32 (s.mtime : Int)) := (cell_of_row _ _ _ _ _ _ B0.out).trans rfl
  have c8 : (w.alloc (.cells (statV s) 90)).cell? ⟨w.heap.size, 8, none⟩ = some (.int .u64 (s.length : Int)) := (cell_of_row _ _ _ _ _ _ B0.out).trans rfl
  have c9 : (w.alloc (.cells (statV s) 90)).cell? ⟨w.heap.size, 9, none⟩ = some (.string s.name) := (cell_of_row _ _ _ _ _ _ B0.out).trans rfl
  have c10 : (w.alloc (.cells (statV s) 90)).cell? ⟨w.heap.size, 10, none⟩ = some (.string s.uid) := (cell_of_row _ _ _ _ _ _ B0.out).trans rfl
  have c11 : (w.alloc (.cells (statV s) 90)).cell? ⟨w.heap.size, 11, none⟩ = some (.string s.gid) := (cell_of_row _ _ _ _ _ _ B0.out).trans rfl
  have c12 : (w.alloc (.cells (statV s) 90)).cell? ⟨w.heap.size, 12, none⟩ = some (.string s.muid) := (cell_of_row _ _ _ _ _ _ B0.out).trans rfl
  go_enter Tryd.func55, Tryd.ntmps55
  go_wp2_with fail
  refine (rencode_any s HS.out hz).mono ?_; rintro e w2 ⟨v, rfl, ho, hm⟩
  rw [encode_snd]
  have HM := Lib.hid (M0.out.trans hm (by simp))
  obtain ⟨A, c, rfl⟩ := own_ctor ho
  clear ho hm c0 c1 c2 c3 c4 c5 c6 c7 c8 c9 c10 c11 c12
  generalize (s.encode.1.length) = n at *
  generalize (s.err : Int) = q at *
  go_wp2_with fail
  go_ret
  refine ⟨?_, HM.out⟩
  rw [← HE.out]
  rfl
set_option maxRecDepth 100000 in
set_option maxHeartbeats 2000000 in
theorem back_any {w : World} (hT : Lib.Utf8Tabs 0 1 w) (s : StatP) (hs : s.Fits) (hz : s.size ≤ 600000000000000) :
    Calls Tryd.prog 12 #[.agg (statV s)] w fun e w' => e = .returned (.bool true) ∧ Mods [] w w' := by
  have b0 := heap_alloc_new w (.cells (statV s) 90)
  have M0 := Lib.hid ((Mods.refl [] w).alloc (.cells (statV s) 90))
  have T0 := Lib.hid (tabs_mods M0.out hT)
  have HS := Lib.hid hs
  have hbb : w.heap.size < (w.alloc (.cells (statV s) 90)).heap.size := by simp
  have B0 := Lib.hid b0
  have HBB := Lib.hid hbb
  clear hs hT hbb b0
  go_enter Tryd.func12, Tryd.ntmps12
  go_wp2_with fail
  refine (awake_any _ T0.out).mono ?_; rintro e w1 ⟨rfl, hm⟩
  have M1 := Lib.hid (M0.out.trans hm (by simp))
  have B1 := Lib.hid (hm.heap B0.out (by simp))
  have T1 := Lib.hid (tabs_mods hm T0.out)
  clear hm
  generalize hb : w.heap.size = b at *
  have HB := Lib.hid hb
  clear hb
  have c0 : (w1).cell? ⟨b, 0, none⟩ = some (.int .u16 (s.typ : Int)) := (cell_of_row _ _ _ _ _ _ B1.out).trans rfl
  have c1 : (w1).cell? ⟨b, 1, none⟩ = some (.int .u32 (s.dev : Int)) := (cell_of_row _ _ _ _ _ _ B1.out).trans rfl
  have c2 : (w1).cell? ⟨b, 2, none⟩ = some (.int .u8 (s.qid.kind : Int)) := (cell_of_row _ _ _ _ _ _ B1.out).trans rfl
  have c3 : (w1).cell? ⟨b, 3, none⟩ = some (.int .u32 (s.qid.vers : Int)) := (cell_of_row _ _ _ _ _ _ B1.out).trans rfl
  have c4 : (w1).cell? ⟨b, 4, none⟩ = some (.int .u64 (s.qid.path : Int)) := (cell_of_row _ _ _ _ _ _ B1.out).trans rfl
  have c5 : (w1).cell? ⟨b, 5, none⟩ = some (.int .u32 (s.mode : Int)) := (cell_of_row _ _ _ _ _ _ B1.out).trans rfl
  have c6 : (w1).cell? ⟨b, 6, none⟩ = some (.int .u32 (s.atime : Int)) := (cell_of_row _ _ _ _ _ _ B1.out).trans rfl
  have c7 : (w1).cell? ⟨b, 7, none⟩ = some (.int .u32 (s.mtime : Int)) := (cell_of_row _ _ _ _ _ _ B1.out).trans rfl
  have c8 : (w1).cell? ⟨b, 8, none⟩ = some (.int .u64 (s.length : Int)) := (cell_of_row _ _ _ _ _ _ B1.out).trans rfl
  have c9 : (w1).cell? ⟨b, 9, none⟩ = some (.string s.name) := (cell_of_row _ _ _ _ _ _ B1.out).trans rfl
  have c10 : (w1).cell? ⟨b, 10, none⟩ = some (.string s.uid) := (cell_of_row _ _ _ _ _ _ B1.out).trans rfl
  have c11 : (w1).cell? ⟨b, 11, none⟩ = some (.string s.gid) := (cell_of_row _ _ _ _ _ _ B1.out).trans rfl
  have c12 : (w1).cell? ⟨b, 12, none⟩ = some (.string s.muid) := (cell_of_row _ _ _ _ _ _ B1.out).trans rfl
  go_wp2_with fail
  refine (weight_any s _ hz).mono ?_; rintro e w2 ⟨rfl, hm⟩
  have M2 := Lib.hid (M1.out.trans hm (by simp))
  have B2 := Lib.hid (hm.heap B1.out (by simp))
  have T2 := Lib.hid (tabs_mods hm T1.out)
  clear hm c0 c1 c2 c3 c4 c5 c6 c7 c8 c9 c10 c11 c12
  by_cases hbig : 268435456 < s.size
  · go_wp2_with fail
    go_ret
    exact ⟨rfl, M2.out⟩
  have c0 : (w2).cell? ⟨b, 0, none⟩ = some (.int .u16 (s.typ : Int)) := (cell_of_row _ _ _ _ _ _ B2.out).trans rfl
  have c1 : (w2).cell? ⟨b, 1, none⟩ = some (.int .u32 (s.dev : Int)) := (cell_of_row _ _ _ _ _ _ B2.out).trans rfl
  have c2 : (w2).cell? ⟨b, 2, none⟩ = some (.int .u8 (s.qid.kind : Int)) := (cell_of_row _ _ _ _ _ _ B2.out).trans rfl
  have c3 : (w2).cell? ⟨b, 3, none⟩ = some (.int .u32 (s.qid.vers : Int)) := (cell_of_row _ _ _ _ _ _ B2.out).trans rfl
  have c4 : (w2).cell? ⟨b, 4, none⟩ = some (.int .u64 (s.qid.path : Int)) := (cell_of_row _ _ _ _ _ _ B2.out).trans rfl
  have c5 : (w2).cell? ⟨b, 5, none⟩ = some (.int .u32 (s.mode : Int)) := (cell_of_row _ _ _ _ _ _ B2.out).trans rfl
  have c6 : (w2).cell? ⟨b, 6, none⟩ = some (.int .u32 (s.atime : Int)) := (cell_of_row _ _ _ _ _ _ B2.out).trans rfl
  have c7 : (w2).cell? ⟨b, 7, none⟩ = some (.int .u32 (s.mtime : Int)) := (cell_of_row _ _ _ _ _ _ B2.out).trans rfl
  have c8 : (w2).cell? ⟨b, 8, none⟩ = some (.int .u64 (s.length : Int)) := (cell_of_row _ _ _ _ _ _ B2.out).trans rfl
  have c9 : (w2).cell? ⟨b, 9, none⟩ = some (.string s.name) := (cell_of_row _ _ _ _ _ _ B2.out).trans rfl
  have c10 : (w2).cell? ⟨b, 10, none⟩ = some (.string s.uid) := (cell_of_row _ _ _ _ _ _ B2.out).trans rfl
  have c11 : (w2).cell? ⟨b, 11, none⟩ = some (.string s.gid) := (cell_of_row _ _ _ _ _ _ B2.out).trans rfl
  have c12 : (w2).cell? ⟨b, 12, none⟩ = some (.string s.muid) := (cell_of_row _ _ _ _ _ _ B2.out).trans rfl
  have hsm : s.size ≤ 268435456 := by omega
  clear hbig
  by_cases he : s.err = 0
  · have HE := Lib.hid he
    have HW := Lib.hid (writes_any (w := w2) s HS.out hsm true (by simpa using he))
    clear he
    go_wp2_with fail
    refine HW.out.mono ?_; rintro e w3 ⟨rfl, hm⟩
    have M3 := Lib.hid (M2.out.trans hm (by simp))
    have B3 := Lib.hid (hm.heap B2.out (by simp))
    have T3 := Lib.hid (tabs_mods hm T2.out)
    clear hm c0 c1 c2 c3 c4 c5 c6 c7 c8 c9 c10 c11 c12
    have c0 : (w3).cell? ⟨b, 0, none⟩ = some (.int .u16 (s.typ : Int)) := (cell_of_row _ _ _ _ _ _ B3.out).trans rfl
    have c1 : (w3).cell? ⟨b, 1, none⟩ = some (.int .u32 (s.dev : Int)) := (cell_of_row _ _ _ _ _ _ B3.out).trans rfl
    have c2 : (w3).cell? ⟨b, 2, none⟩ = some (.int .u8 (s.qid.kind : Int)) := (cell_of_row _ _ _ _ _ _ B3.out).trans rfl
    have c3 : (w3).cell? ⟨b, 3, none⟩ = some (.int .u32 (s.qid.vers : Int)) := (cell_of_row _ _ _ _ _ _ B3.out).trans rfl
    have c4 : (w3).cell? ⟨b, 4, none⟩ = some (.int .u64 (s.qid.path : Int)) := (cell_of_row _ _ _ _ _ _ B3.out).trans rfl
    have c5 : (w3).cell? ⟨b, 5, none⟩ = some (.int .u32 (s.mode : Int)) := (cell_of_row _ _ _ _ _ _ B3.out).trans rfl
    have c6 : (w3).cell? ⟨b, 6, none⟩ = some (.int .u32 (s.atime : Int)) := (cell_of_row _ _ _ _ _ _ B3.out).trans rfl
    have c7 : (w3).cell? ⟨b, 7, none⟩ = some (.int .u32 (s.mtime : Int)) := (cell_of_row _ _ _ _ _ _ B3.out).trans rfl
    have c8 : (w3).cell? ⟨b, 8, none⟩ = some (.int .u64 (s.length : Int)) := (cell_of_row _ _ _ _ _ _ B3.out).trans rfl
    have c9 : (w3).cell? ⟨b, 9, none⟩ = some (.string s.name) := (cell_of_row _ _ _ _ _ _ B3.out).trans rfl
    have c10 : (w3).cell? ⟨b, 10, none⟩ = some (.string s.uid) := (cell_of_row _ _ _ _ _ _ B3.out).trans rfl
    have c11 : (w3).cell? ⟨b, 11, none⟩ = some (.string s.gid) := (cell_of_row _ _ _ _ _ _ B3.out).trans rfl
    have c12 : (w3).cell? ⟨b, 12, none⟩ = some (.string s.muid) := (cell_of_row _ _ _ _ _ _ B3.out).trans rfl
    go_wp2_with fail
    refine (encode_any T3.out s HS.out hz).mono ?_; rintro e w4 ⟨v, rfl, ho, hm⟩
    rw [encode_good HE.out] at ho ⊢
    simp only at ho
    have hgl : 49 ≤ s.enc.length := by rw [StatP.enc_length]; unfold StatP.size; omega
    rcases ownsRow_form ho with ⟨-, h0, -⟩ | ⟨g, c, hvc, hlc, hcm, -, -⟩
    · omega
    subst hvc
    clear hgl
    have hl := s.enc_length
    have HL := Lib.hid hl
    clear hl
    have M4 := Lib.hid (M3.out.trans hm (by simp))
    have B4 := Lib.hid (hm.heap B3.out (by simp))
    have T4 := Lib.hid (tabs_mods hm T3.out)
    have O4 := Lib.hid ho
    have hn : s.enc.length ≤ 268435456 := by rw [HL.out]; exact hsm
    have hn1 : 49 ≤ s.enc.length := by rw [HL.out]; unfold StatP.size; omega
    have HEN := Lib.hid (show s.enc.length = s.size from HL.out)
    clear hm ho c0 c1 c2 c3 c4 c5 c6 c7 c8 c9 c10 c11 c12
    generalize hN : s.enc.length = n at *
    have HN := Lib.hid hN
    clear hN
    have c0 : (w4).cell? ⟨b, 0, none⟩ = some (.int .u16 (s.typ : Int)) := (cell_of_row _ _ _ _ _ _ B4.out).trans rfl
    have c1 : (w4).cell? ⟨b, 1, none⟩ = some (.int .u32 (s.dev : Int)) := (cell_of_row _ _ _ _ _ _ B4.out).trans rfl
    have c2 : (w4).cell? ⟨b, 2, none⟩ = some (.int .u8 (s.qid.kind : Int)) := (cell_of_row _ _ _ _ _ _ B4.out).trans rfl
    have c3 : (w4).cell? ⟨b, 3, none⟩ = some (.int .u32 (s.qid.vers : Int)) := (cell_of_row _ _ _ _ _ _ B4.out).trans rfl
    have c4 : (w4).cell? ⟨b, 4, none⟩ = some (.int .u64 (s.qid.path : Int)) := (cell_of_row _ _ _ _ _ _ B4.out).trans rfl
    have c5 : (w4).cell? ⟨b, 5, none⟩ = some (.int .u32 (s.mode : Int)) := (cell_of_row _ _ _ _ _ _ B4.out).trans rfl
    have c6 : (w4).cell? ⟨b, 6, none⟩ = some (.int .u32 (s.atime : Int)) := (cell_of_row _ _ _ _ _ _ B4.out).trans rfl
    have c7 : (w4).cell? ⟨b, 7, none⟩ = some (.int .u32 (s.mtime : Int)) := (cell_of_row _ _ _ _ _ _ B4.out).trans rfl
    have c8 : (w4).cell? ⟨b, 8, none⟩ = some (.int .u64 (s.length : Int)) := (cell_of_row _ _ _ _ _ _ B4.out).trans rfl
    have c9 : (w4).cell? ⟨b, 9, none⟩ = some (.string s.name) := (cell_of_row _ _ _ _ _ _ B4.out).trans rfl
    have c10 : (w4).cell? ⟨b, 10, none⟩ = some (.string s.uid) := (cell_of_row _ _ _ _ _ _ B4.out).trans rfl
    have c11 : (w4).cell? ⟨b, 11, none⟩ = some (.string s.gid) := (cell_of_row _ _ _ _ _ _ B4.out).trans rfl
    have c12 : (w4).cell? ⟨b, 12, none⟩ = some (.string s.muid) := (cell_of_row _ _ _ _ _ _ B4.out).trans rfl
    go_wp2_with fail
    refine (size_any s _ hz).mono ?_; rintro e w5 ⟨rfl, hm⟩
    have M5 := Lib.hid (M4.out.trans hm (by simp))
    have B5 := Lib.hid (hm.heap B4.out (by simp))
    have T5 := Lib.hid (tabs_mods hm T4.out)
    have O5 := Lib.hid (ownsRow_mods O4.out hm (by simp))
    rw [← HEN.out]
    have R5 := Lib.hid (Rd.of_own O5.out)
    clear hm c0 c1 c2 c3 c4 c5 c6 c7 c8 c9 c10 c11 c12
    go_wp2_with fail
    refine (decode_any s.enc R5.out (by rw [HN.out]; omega) T5.out).mono ?_; rintro e w6 ⟨rfl, hm⟩
    rw [decode_enc HS.out HE.out]
    have M6 := Lib.hid ((M5.out.trans hm (by simp)).alloc (.cells (statV s) 90))
    have m6 := hm.alloc (.cells (statV s) 90)
    have B6 := Lib.hid (m6.heap B5.out (by simp))
    have T6 := Lib.hid (tabs_mods m6 T5.out)
    have O6 := Lib.hid (ownsRow_mods O5.out m6 (by simp))
    clear hm m6
    have c0 : (w6.alloc (.cells #[.int .u16 (s.typ : Int), .int .u32 (s.dev : Int), .int .u8 (s.qid.kind : Int), .int .u32 (s.qid.vers : Int), .int .u64 (s.qid.path : Int), .int .u32 (s.mode : Int), .int .u32 (s.atime : Int), .int .u32 (s.mtime : Int), .int .u64 (s.length : Int), .string s.name, .string s.uid, .string s.gid, .string s.muid] 90)).cell? ⟨b, 0, none⟩ = some (.int .u16 (s.typ : Int)) := (cell_of_row _ _ _ _ _ _ B6.out).trans rfl
    have c1 : (w6.alloc (.cells #[.int .u16 (s.typ : Int), .int .u32 (s.dev : Int), .int .u8 (s.qid.kind : Int), .int .u32 (s.qid.vers : Int), .int .u64 (s.qid.path : Int), .int .u32 (s.mode : Int), .int .u32 (s.atime : Int), .int .u32 (s.mtime : Int), .int .u64 (s.length : Int), .string s.name, .string s.uid, .string s.gid, .string s.muid] 90)).cell? ⟨b, 1, none⟩ = some (.int .u32 (s.dev : Int)) := (cell_of_row _ _ _ _ _ _ B6.out).trans rfl
    have c2 : (w6.alloc (.cells #[.int .u16 (s.typ : Int), .int .u32 (s.dev : Int), .int .u8 (s.qid.kind : Int), .int .u32 (s.qid.vers : Int), .int .u64 (s.qid.path : Int), .int .u32 (s.mode : Int), .int .u32 (s.atime : Int), .int .u32 (s.mtime : Int), .int .u64 (s.length : Int), .string s.name, .string s.uid, .string s.gid, .string s.muid] 90)).cell? ⟨b, 2, none⟩ = some (.int .u8 (s.qid.kind : Int)) := (cell_of_row _ _ _ _ _ _ B6.out).trans rfl
    have c3 : (w6.alloc (.cells #[.int .u16 (s.typ : Int), .int .u32 (s.dev : Int), .int .u8 (s.qid.kind : Int), .int .u32 (s.qid.vers : Int), .int .u64 (s.qid.path : Int), .int .u32 (s.mode : Int), .int .u32 (s.atime : Int), .int .u32 (s.mtime : Int), .int .u64 (s.length : Int), .string s.name, .string s.uid, .string s.gid, .string s.muid] 90)).cell? ⟨b, 3, none⟩ = some (.int .u32 (s.qid.vers : Int)) := (cell_of_row _ _ _ _ _ _ B6.out).trans rfl
    have c4 : (w6.alloc (.cells #[.int .u16 (s.typ : Int), .int .u32 (s.dev : Int), .int .u8 (s.qid.kind : Int), .int .u32 (s.qid.vers : Int), .int .u64 (s.qid.path : Int), .int .u32 (s.mode : Int), .int .u32 (s.atime : Int), .int .u32 (s.mtime : Int), .int .u64 (s.length : Int), .string s.name, .string s.uid, .string s.gid, .string s.muid] 90)).cell? ⟨b, 4, none⟩ = some (.int .u64 (s.qid.path : Int)) := (cell_of_row _ _ _ _ _ _ B6.out).trans rfl
    have c5 : (w6.alloc (.cells #[.int .u16 (s.typ : Int), .int .u32 (s.dev : Int), .int .u8 (s.qid.kind : Int), .int .u32 (s.qid.vers : Int), .int .u64 (s.qid.path : Int), .int .u32 (s.mode : Int), .int .u32 (s.atime : Int), .int .u32 (s.mtime : Int), .int .u64 (s.length : Int), .string s.name, .string s.uid, .string s.gid, .string s.muid] 90)).cell? ⟨b, 5, none⟩ = some (.int .u32 (s.mode : Int)) := (cell_of_row _ _ _ _ _ _ B6.out).trans rfl
    have c6 : (w6.alloc (.cells #[.int .u16 (s.typ : Int), .int .u32 (s.dev : Int), .int .u8 (s.qid.kind : Int), .int .u32 (s.qid.vers : Int), .int .u64 (s.qid.path : Int), .int .u32 (s.mode : Int), .int .u32 (s.atime : Int), .int .u32 (s.mtime : Int), .int .u64 (s.length : Int), .string s.name, .string s.uid, .string s.gid, .string s.muid] 90)).cell? ⟨b, 6, none⟩ = some (.int .u32 (s.atime : Int)) := (cell_of_row _ _ _ _ _ _ B6.out).trans rfl
    have c7 : (w6.alloc (.cells #[.int .u16 (s.typ : Int), .int .u32 (s.dev : Int), .int .u8 (s.qid.kind : Int), .int .u32 (s.qid.vers : Int), .int .u64 (s.qid.path : Int), .int .u32 (s.mode : Int), .int .u32 (s.atime : Int), .int .u32 (s.mtime : Int), .int .u64 (s.length : Int), .string s.name, .string s.uid, .string s.gid, .string s.muid] 90)).cell? ⟨b, 7, none⟩ = some (.int .u32 (s.mtime : Int)) := (cell_of_row _ _ _ _ _ _ B6.out).trans rfl
    have c8 : (w6.alloc (.cells #[.int .u16 (s.typ : Int), .int .u32 (s.dev : Int), .int .u8 (s.qid.kind : Int), .int .u32 (s.qid.vers : Int), .int .u64 (s.qid.path : Int), .int .u32 (s.mode : Int), .int .u32 (s.atime : Int), .int .u32 (s.mtime : Int), .int .u64 (s.length : Int), .string s.name, .string s.uid, .string s.gid, .string s.muid] 90)).cell? ⟨b, 8, none⟩ = some (.int .u64 (s.length : Int)) := (cell_of_row _ _ _ _ _ _ B6.out).trans rfl
    have c9 : (w6.alloc (.cells #[.int .u16 (s.typ : Int), .int .u32 (s.dev : Int), .int .u8 (s.qid.kind : Int), .int .u32 (s.qid.vers : Int), .int .u64 (s.qid.path : Int), .int .u32 (s.mode : Int), .int .u32 (s.atime : Int), .int .u32 (s.mtime : Int), .int .u64 (s.length : Int), .string s.name, .string s.uid, .string s.gid, .string s.muid] 90)).cell? ⟨b, 9, none⟩ = some (.string s.name) := (cell_of_row _ _ _ _ _ _ B6.out).trans rfl
    have c10 : (w6.alloc (.cells #[.int .u16 (s.typ : Int), .int .u32 (s.dev : Int), .int .u8 (s.qid.kind : Int), .int .u32 (s.qid.vers : Int), .int .u64 (s.qid.path : Int), .int .u32 (s.mode : Int), .int .u32 (s.atime : Int), .int .u32 (s.mtime : Int), .int .u64 (s.length : Int), .string s.name, .string s.uid, .string s.gid, .string s.muid] 90)).cell? ⟨b, 10, none⟩ = some (.string s.uid) := (cell_of_row _ _ _ _ _ _ B6.out).trans rfl
    have c11 : (w6.alloc (.cells #[.int .u16 (s.typ : Int), .int .u32 (s.dev : Int), .int .u8 (s.qid.kind : Int), .int .u32 (s.qid.vers : Int), .int .u64 (s.qid.path : Int), .int .u32 (s.mode : Int), .int .u32 (s.atime : Int), .int .u32 (s.mtime : Int), .int .u64 (s.length : Int), .string s.name, .string s.uid, .string s.gid, .string s.muid] 90)).cell? ⟨b, 11, none⟩ = some (.string s.gid) := (cell_of_row _ _ _ _ _ _ B6.out).trans rfl
    have c12 : (w6.alloc (.cells #[.int .u16 (s.typ : Int), .int .u32 (s.dev : Int), .int .u8 (s.qid.kind : Int), .int .u32 (s.qid.vers : Int), .int .u64 (s.qid.path : Int), .int .u32 (s.mode : Int), .int .u32 (s.atime : Int), .int .u32 (s.mtime : Int), .int .u64 (s.length : Int), .string s.name, .string s.uid, .string s.gid, .string s.muid] 90)).cell? ⟨b, 12, none⟩ = some (.string s.muid) := (cell_of_row _ _ _ _ _ _ B6.out).trans rfl
    unfold statV
    obtain ⟨i0, hi, hz0, hz1, hz2⟩ := info_parts info5
    go_wp2_with (at_builtin; go_must (refine wpList_app _ rfl _ _ 43 43 rfl 0 5 i0 (.int .u8 0) 1 1 Tryd.underlying43 hi hz0 hz1 hz2 rfl (.slice none 0 0) 0 [] rfl (World.ownsRow_nil _ _ _ _) _ n (s.enc.map byteV) rfl ?c1 ?c2 ?c3 ?c4 ?_))
    case c1 => exact src_own Tryd.underlying43 O6.out (bytes_one _)
    case c2 => unfold maxLen; omega
    case c3 => omega
    case c4 => exact Nat.zero_le _
    intro v1 z1 hown hgrow hat
    have m7 := (Mods.refl [] _).grown hgrow (by simp [Value.ownBlock])
    have M7 := Lib.hid (M6.out.trans m7 (by simp))
    have T7 := Lib.hid (tabs_mods m7 T6.out)
    have O7 := Lib.hid (ownsRow_mods O6.out m7 (by simp))
    have N7 := Lib.hid hown
    have hv1 : ∀ k, v1.ownBlock = some k → w6.heap.size + 1 ≤ k := by
      intro k hk
      rcases hat with e | e
      · rw [e] at hk
        simp [Value.ownBlock] at hk
      · rw [e] at hk
        have := Option.some.inj hk
        omega
    have HV1 := Lib.hid hv1
    obtain ⟨A1, a1, rfl⟩ := own_ctor hown
    clear hown hgrow hat m7 hv1 c0 c1 c2 c3 c4 c5 c6 c7 c8 c9 c10 c11 c12
    go_wp2_with (at_builtin; go_must (refine wpList_app _ rfl _ _ 43 43 rfl 0 5 i0 (.int .u8 0) 1 1 Tryd.underlying43 hi hz0 hz1 hz2 rfl _ _ _ rfl (N7.out.alloc _) _ 1 [.int .u8 0] rfl ?d1 ?d2 ?d3 ?d4 ?_))
    case d1 => exact src_one Tryd.underlying43 _ _ _ rfl
    case d2 => unfold maxLen; omega
    case d3 => omega
    case d4 => exact Nat.zero_le _
    intro v2 z2 hown hgrow hat
    have m8 := ((Mods.refl (Value.slice A1 n a1).ownBlock.toList _).alloc (.cells #[.int .u8 0] 5)).grown hgrow (fun k hk => Or.inl (by rw [hk]; simp))
    have hF : ∀ k ∈ (Value.slice A1 n a1).ownBlock.toList, w6.heap.size + 1 ≤ k := fun k hk => HV1.out k (by simpa using hk)
    have h6 : w.heap.size ≤ w6.heap.size + 1 := by simpa using M6.out.size
    have h62 : 2 ≤ w6.heap.size + 1 := by simpa using tabs_two T6.out
    have M8 := Lib.hid (M7.out.trans m8 (fun k hk => Or.inr (Nat.le_trans h6 (hF k hk))))
    have T8 := Lib.hid (tabs_heap (fun k hk => m8.block k (by have := tabs_two T7.out; omega) (fun hm => by have := hF k hm; omega)) T7.out)
    have O8 := Lib.hid (ownsRow_mods O7.out m8 (fun k hk hm => by have h1 := ownsRow_lt O6.out k hk; have h2 := hF k hm; simp at h1; omega))
    have hx : (s.enc.map byteV ++ [.int .u8 0] : List Value) = (s.enc ++ [0]).map byteV := by simp [byteV]
    rw [hx] at hown
    have R8 := Lib.hid (Rd.of_own hown)
    obtain ⟨A2, a2, rfl⟩ := own_ctor hown
    clear hown hgrow hat m8 hF h6 h62 hx
    go_wp2_with fail
    refine (decode_any (s.enc ++ [0]) R8.out (by rw [List.length_append, HN.out, List.length_singleton]; omega) T8.out).mono ?_; rintro e z3 ⟨rfl, hm⟩
    rw [decode_more HE.out 0]
    generalize statV (decode (s.enc ++ [0])).1 = x1
    have M9 := Lib.hid (M8.out.trans hm (by simp))
    have T9 := Lib.hid (tabs_mods hm T8.out)
    have O9 := Lib.hid (ownsRow_mods O8.out hm (by simp))
    have c9 := Rd.of_own (ownsRow_cut O9.out (n - 1) (by omega))
    rw [← List.map_take] at c9
    have C9 := Lib.hid c9
    have hD := decode_less HE.out
    rw [HN.out] at hD
    have HD := Lib.hid hD
    clear hm c9 hD
    go_wp2_with fail
    refine (decode_any (s.enc.take (n - 1)) C9.out (by rw [List.length_take]; omega) T9.out).mono ?_; rintro e z4 ⟨rfl, hm⟩
    rw [HD.out]
    generalize statV (decode (s.enc.take (n - 1))).1 = x2
    have M10 := Lib.hid (M9.out.trans hm (by simp))
    clear hm
    go_wp2_with fail
    go_ret
    exact ⟨rfl, M10.out⟩
  · have HE := Lib.hid he
    have HW := Lib.hid (writes_any (w := w2) s HS.out hsm false (by simpa using he))
    have hq : ((s.err : Int) != 0) = true := by rw [bne_iff_ne]; omega
    have HEN := Lib.hid (encode_bad (s := s) rfl he)
    clear he
    go_wp2_with fail
    refine HW.out.mono ?_; rintro e w3 ⟨rfl, hm⟩
    have M3 := Lib.hid (M2.out.trans hm (by simp))
    have B3 := Lib.hid (hm.heap B2.out (by simp))
    have T3 := Lib.hid (tabs_mods hm T2.out)
    clear hm c0 c1 c2 c3 c4 c5 c6 c7 c8 c9 c10 c11 c12
    have c0 : (w3).cell? ⟨b, 0, none⟩ = some (.int .u16 (s.typ : Int)) := (cell_of_row _ _ _ _ _ _ B3.out).trans rfl
    have c1 : (w3).cell? ⟨b, 1, none⟩ = some (.int .u32 (s.dev : Int)) := (cell_of_row _ _ _ _ _ _ B3.out).trans rfl
    have c2 : (w3).cell? ⟨b, 2, none⟩ = some (.int .u8 (s.qid.kind : Int)) := (cell_of_row _ _ _ _ _ _ B3.out).trans rfl
    have c3 : (w3).cell? ⟨b, 3, none⟩ = some (.int .u32 (s.qid.vers : Int)) := (cell_of_row _ _ _ _ _ _ B3.out).trans rfl
    have c4 : (w3).cell? ⟨b, 4, none⟩ = some (.int .u64 (s.qid.path : Int)) := (cell_of_row _ _ _ _ _ _ B3.out).trans rfl
    have c5 : (w3).cell? ⟨b, 5, none⟩ = some (.int .u32 (s.mode : Int)) := (cell_of_row _ _ _ _ _ _ B3.out).trans rfl
    have c6 : (w3).cell? ⟨b, 6, none⟩ = some (.int .u32 (s.atime : Int)) := (cell_of_row _ _ _ _ _ _ B3.out).trans rfl
    have c7 : (w3).cell? ⟨b, 7, none⟩ = some (.int .u32 (s.mtime : Int)) := (cell_of_row _ _ _ _ _ _ B3.out).trans rfl
    have c8 : (w3).cell? ⟨b, 8, none⟩ = some (.int .u64 (s.length : Int)) := (cell_of_row _ _ _ _ _ _ B3.out).trans rfl
    have c9 : (w3).cell? ⟨b, 9, none⟩ = some (.string s.name) := (cell_of_row _ _ _ _ _ _ B3.out).trans rfl
    have c10 : (w3).cell? ⟨b, 10, none⟩ = some (.string s.uid) := (cell_of_row _ _ _ _ _ _ B3.out).trans rfl
    have c11 : (w3).cell? ⟨b, 11, none⟩ = some (.string s.gid) := (cell_of_row _ _ _ _ _ _ B3.out).trans rfl
    have c12 : (w3).cell? ⟨b, 12, none⟩ = some (.string s.muid) := (cell_of_row _ _ _ _ _ _ B3.out).trans rfl
    go_wp2_with fail
    refine (encode_any T3.out s HS.out hz).mono ?_; rintro e w4 ⟨v, rfl, ho, hm⟩
    rw [HEN.out] at ho ⊢
    simp only at ho
    obtain ⟨A, c, rfl⟩ := own_ctor ho
    have M4 := Lib.hid (M3.out.trans hm (by simp))
    clear hm ho c0 c1 c2 c3 c4 c5 c6 c7 c8 c9 c10 c11 c12
    go_wp2_with fail
    go_ret
    exact ⟨rfl, M4.out⟩
end Go.Proofs.YtedddekkbgaolaaDoor
