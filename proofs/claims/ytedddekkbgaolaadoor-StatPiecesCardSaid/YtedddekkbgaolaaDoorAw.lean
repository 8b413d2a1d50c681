/- vergerlaw02's sample, awake, weight. -/
import Derived.Test.YtedddekkbgaolaaDoorEc
import Derived.Test.YtedddekkbgaolaaDoorDc
import Derived.Laws.StructEq
namespace Go.Proofs.YtedddekkbgaolaaDoor
open Go.RowKit Me

def sampleS : StatP := ⟨1, 2, ⟨128, 3, 4⟩, 2147484141, 5, 6, 7, ⟨#[110]⟩, ⟨#[117]⟩, ⟨#[103]⟩, ⟨#[109]⟩⟩
theorem sample_fits : sampleS.Fits := ⟨by decide, by decide, ⟨by decide, by decide, by decide⟩, by decide, by decide, by decide, by decide⟩
theorem sample_err : sampleS.err = 0 := StatP.err_of (by decide) (by decide)
theorem sample_size : sampleS.size = 53 := by decide
set_option maxHeartbeats 400000 in
theorem sample_any (w : World) : Calls Tryd.prog 62 #[] w fun e w' => e = .returned (.agg (statV sampleS)) ∧ Mods [] w w' := by
  go_enter Tryd.func62, Tryd.ntmps62
  go_wp2_with fail
  refine bodyPost_ret (v := .agg #[.int .u16 1, .int .u32 2, .int .u8 128, .int .u32 3, .int .u64 4, .int .u32 2147484141, .int .u32 5, .int .u32 6, .int .u64 7, .string ⟨#[110]⟩, .string ⟨#[117]⟩, .string ⟨#[103]⟩, .string ⟨#[109]⟩]) (by simp [results, Tryd.results62, go_sem]) rfl ⟨rfl, (Mods.refl _ _).alloc _⟩
theorem weight_any (s : StatP) (w : World) (hs : s.size ≤ 600000000000000) :
    Calls Tryd.prog 54 #[.agg (statV s)] w fun e w' => e = .returned (.int .i64 (s.size : Int)) ∧ Mods [] w w' := by
  obtain ⟨typ, dev, ⟨kind, vers, path⟩, mode, atime, mtime, length, name, uid, gid, muid⟩ := s
  simp only [StatP.size] at hs
  simp only [StatP.size, statV]
  go_enter Tryd.func54, Tryd.ntmps54
  go_wp2_with fail
  go_ret
  exact ⟨by simp, (Mods.refl _ _).alloc _⟩
set_option maxHeartbeats 1000000 in
theorem awake_any (w : World) (hT : Lib.Utf8Tabs 0 1 w) : Calls Tryd.prog 53 #[] w fun e w' => e = .returned (.bool true) ∧ Mods [] w w' := by
  have HS := Lib.hid (sample_any w)
  have HF := Lib.hid sample_fits
  have H0 := Lib.hid sample_err
  have HZ := Lib.hid sample_size
  have HT := Lib.hid hT
  clear hT
  generalize sampleS = s at *
  go_enter Tryd.func53, Tryd.ntmps53
  go_wp2_with fail
  refine HS.out.mono ?_; rintro e w1 ⟨rfl, hm⟩
  have M1 := Lib.hid (hm.alloc (.cells (statV s) 90))
  have C1 := Lib.hid (heap_alloc_new w1 (.cells (statV s) 90))
  have T1 := Lib.hid (tabs_mods M1.out HT.out)
  clear hm
  unfold statV
  go_wp2_with fail
  refine (encode_any T1.out s HF.out (by have := HZ.out; omega)).mono ?_; rintro e w2 ⟨v, rfl, ho, hm⟩
  rw [encode_good H0.out] at ho ⊢
  obtain ⟨A, c, rfl⟩ := own_ctor ho
  have hl : s.enc.length = 53 := by rw [StatP.enc_length]; exact HZ.out
  have HL := Lib.hid hl
  rw [hl] at ho ⊢
  have M2 := Lib.hid (M1.out.trans hm (by simp))
  have C2 := Lib.hid (hm.heap C1.out (by simp))
  have T2 := Lib.hid (tabs_mods hm T1.out)
  have R2 := Lib.hid (Rd.of_own ho)
  clear hm ho hl
  generalize w1.heap.size = bs at *
  go_wp2_with fail
  refine (decode_any s.enc R2.out (by have := HL.out; omega) T2.out).mono ?_; rintro e w3 ⟨rfl, hm⟩
  rw [decode_enc HF.out H0.out]
  have M3 := Lib.hid ((M2.out.trans hm (by simp)).alloc (.cells (statV s) 90))
  have c3 := hm.heap C2.out (by simp)
  have C3 := Lib.hid ((Go.heap_alloc_old w3 (.cells (statV s) 90) (Array.getElem?_eq_some_iff.1 c3).1).trans c3)
  have D3 := Lib.hid (heap_alloc_new w3 (.cells (statV s) 90))
  clear hm c3
  have c0 : (w3.alloc (.cells #[.int .u16 (s.typ : Int), .int .u32 (s.dev : Int), .int .u8 (s.qid.kind : Int), .int .u32 (s.qid.vers : Int), .int .u64 (s.qid.path : Int), .int .u32 (s.mode : Int), .int .u32 (s.atime : Int), .int .u32 (s.mtime : Int), .int .u64 (s.length : Int), .string s.name, .string s.uid, .string s.gid, .string s.muid] 90)).cell? ⟨bs, 0, none⟩ = some (.int .u16 (s.typ : Int)) := (cell_of_row _ _ _ _ _ _ C3.out).trans rfl
  have c1 : (w3.alloc (.cells #[.int .u16 (s.typ : Int), .int .u32 (s.dev : Int), .int .u8 (s.qid.kind : Int), .int .u32 (s.qid.vers : Int), .int .u64 (s.qid.path : Int), .int .u32 (s.mode : Int), .int .u32 (s.atime : Int), .int .u32 (s.mtime : Int), .int .u64 (s.length : Int), .string s.name, .string s.uid, .string s.gid, .string s.muid] 90)).cell? ⟨bs, 1, none⟩ = some (.int .u32 (s.dev : Int)) := (cell_of_row _ _ _ _ _ _ C3.out).trans rfl
  have c2 : (w3.alloc (.cells #[.int .u16 (s.typ : Int), .int .u32 (s.dev : Int), .int .u8 (s.qid.kind : Int), .int .u32 (s.qid.vers : Int), .int .u64 (s.qid.path : Int), .int .u32 (s.mode : Int), .int .u32 (s.atime : Int), .int .u32 (s.mtime : Int), .int .u64 (s.length : Int), .string s.name, .string s.uid, .string s.gid, .string s.muid] 90)).cell? ⟨bs, 2, none⟩ = some (.int .u8 (s.qid.kind : Int)) := (cell_of_row _ _ _ _ _ _ C3.out).trans rfl
  have c3 : (w3.alloc (.cells #[.int .u16 (s.typ : Int), .int .u32 (s.dev : Int), .int .u8 (s.qid.kind : Int), .int .u32 (s.qid.vers : Int), .int .u64 (s.qid.path : Int), .int .u32 (s.mode : Int), .int .u32 (s.atime : Int), .int .u32 (s.mtime : Int), .int .u64 (s.length : Int), .string s.name, .string s.uid, .string s.gid, .string s.muid] 90)).cell? ⟨bs, 3, none⟩ = some (.int .u32 (s.qid.vers : Int)) := (cell_of_row _ _ _ _ _ _ C3.out).trans rfl
  have c4 : (w3.alloc (.cells #[.int .u16 (s.typ : Int), .int .u32 (s.dev : Int), .int .u8 (s.qid.kind : Int), .int .u32 (s.qid.vers : Int), .int .u64 (s.qid.path : Int), .int .u32 (s.mode : Int), .int .u32 (s.atime : Int), .int .u32 (s.mtime : Int), .int .u64 (s.length : Int), .string s.name, .string s.uid, .string s.gid, .string s.muid] 90)).cell? ⟨bs, 4, none⟩ = some (.int .u64 (s.qid.path : Int)) := (cell_of_row _ _ _ _ _ _ C3.out).trans rfl
  have c5 : (w3.alloc (.cells #[.int .u16 (s.typ : Int), .int .u32 (s.dev : Int), .int .u8 (s.qid.kind : Int), .int .u32 (s.qid.vers : Int), .int .u64 (s.qid.path : Int), .int .u32 (s.mode : Int), .int .u32 (s.atime : Int), .int .u32 (s.mtime : Int), .int .u64 (s.length : Int), .string s.name, .string s.uid, .string s.gid, .string s.muid] 90)).cell? ⟨bs, 5, none⟩ = some (.int .u32 (s.mode : Int)) := (cell_of_row _ _ _ _ _ _ C3.out).trans rfl
  have c6 : (w3.alloc (.cells #[.int .u16 (s.typ : Int), .int .u32 (s.dev : Int), .int .u8 (s.qid.kind : Int), .int .u32 (s.qid.vers : Int), .int .u64 (s.qid.path : Int), .int .u32 (s.mode : Int), .int .u32 (s.atime : Int), .int .u32 (s.mtime : Int), .int .u64 (s.length : Int), .string s.name, .string s.uid, .string s.gid, .string s.muid] 90)).cell? ⟨bs, 6, none⟩ = some (.int .u32 (s.atime : Int)) := (cell_of_row _ _ _ _ _ _ C3.out).trans rfl
  have c7 : (w3.alloc (.cells #[.int .u16 (s.typ : Int), .int .u32 (s.dev : Int), .int .u8 (s.qid.kind : Int), .int .u32 (s.qid.vers : Int), .int .u64 (s.qid.path : Int), .int .u32 (s.mode : Int), .int .u32 (s.atime : Int), .int .u32 (s.mtime : Int), .int .u64 (s.length : Int), .string s.name, .string s.uid, .string s.gid, .string s.muid] 90)).cell? ⟨bs, 7, none⟩ = some (.int .u32 (s.mtime : Int)) := (cell_of_row _ _ _ _ _ _ C3.out).trans rfl
  have c8 : (w3.alloc (.cells #[.int .u16 (s.typ : Int), .int .u32 (s.dev : Int), .int .u8 (s.qid.kind : Int), .int .u32 (s.qid.vers : Int), .int .u64 (s.qid.path : Int), .int .u32 (s.mode : Int), .int .u32 (s.atime : Int), .int .u32 (s.mtime : Int), .int .u64 (s.length : Int), .string s.name, .string s.uid, .string s.gid, .string s.muid] 90)).cell? ⟨bs, 8, none⟩ = some (.int .u64 (s.length : Int)) := (cell_of_row _ _ _ _ _ _ C3.out).trans rfl
  have c9 : (w3.alloc (.cells #[.int .u16 (s.typ : Int), .int .u32 (s.dev : Int), .int .u8 (s.qid.kind : Int), .int .u32 (s.qid.vers : Int), .int .u64 (s.qid.path : Int), .int .u32 (s.mode : Int), .int .u32 (s.atime : Int), .int .u32 (s.mtime : Int), .int .u64 (s.length : Int), .string s.name, .string s.uid, .string s.gid, .string s.muid] 90)).cell? ⟨bs, 9, none⟩ = some (.string s.name) := (cell_of_row _ _ _ _ _ _ C3.out).trans rfl
  have c10 : (w3.alloc (.cells #[.int .u16 (s.typ : Int), .int .u32 (s.dev : Int), .int .u8 (s.qid.kind : Int), .int .u32 (s.qid.vers : Int), .int .u64 (s.qid.path : Int), .int .u32 (s.mode : Int), .int .u32 (s.atime : Int), .int .u32 (s.mtime : Int), .int .u64 (s.length : Int), .string s.name, .string s.uid, .string s.gid, .string s.muid] 90)).cell? ⟨bs, 10, none⟩ = some (.string s.uid) := (cell_of_row _ _ _ _ _ _ C3.out).trans rfl
  have c11 : (w3.alloc (.cells #[.int .u16 (s.typ : Int), .int .u32 (s.dev : Int), .int .u8 (s.qid.kind : Int), .int .u32 (s.qid.vers : Int), .int .u64 (s.qid.path : Int), .int .u32 (s.mode : Int), .int .u32 (s.atime : Int), .int .u32 (s.mtime : Int), .int .u64 (s.length : Int), .string s.name, .string s.uid, .string s.gid, .string s.muid] 90)).cell? ⟨bs, 11, none⟩ = some (.string s.gid) := (cell_of_row _ _ _ _ _ _ C3.out).trans rfl
  have c12 : (w3.alloc (.cells #[.int .u16 (s.typ : Int), .int .u32 (s.dev : Int), .int .u8 (s.qid.kind : Int), .int .u32 (s.qid.vers : Int), .int .u64 (s.qid.path : Int), .int .u32 (s.mode : Int), .int .u32 (s.atime : Int), .int .u32 (s.mtime : Int), .int .u64 (s.length : Int), .string s.name, .string s.uid, .string s.gid, .string s.muid] 90)).cell? ⟨bs, 12, none⟩ = some (.string s.muid) := (cell_of_row _ _ _ _ _ _ C3.out).trans rfl
  unfold statV
  go_wp2_with fail
  go_ret
  exact ⟨rfl, M3.out⟩
end Go.Proofs.YtedddekkbgaolaaDoor
