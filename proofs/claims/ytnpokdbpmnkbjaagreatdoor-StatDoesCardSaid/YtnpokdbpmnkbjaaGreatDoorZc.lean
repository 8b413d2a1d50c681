/- The reference's Keep, Touched. (Printed by wip/bin/gentouch2.py.) -/
import Derived.Test.YtnpokdbpmnkbjaaGreatDoorTb
import Derived.Deep.CutBlock
import Derived.Deep.CutRange
namespace Go.Proofs.YtnpokdbpmnkbjaaGreatDoor
open Go.RowKit Me

theorem rkeep_any (w : World) : Calls Tryz.prog 41 #[] w fun e w' => e = .returned (.agg (statV keepS)) ∧ Mods [] w w' := by
  go_enter Tryz.func41, Tryz.ntmps41
  go_wp2_with fail
  refine bodyPost_ret (v := .agg #[.int .u16 65535, .int .u32 4294967295, .int .u8 255, .int .u32 4294967295, .int .u64 18446744073709551615, .int .u32 4294967295, .int .u32 4294967295, .int .u32 4294967295, .int .u64 18446744073709551615, .string ⟨#[]⟩, .string ⟨#[]⟩, .string ⟨#[]⟩, .string ⟨#[]⟩]) (by simp [results, Tryz.results41, go_sem]) rfl ⟨rfl, ?_⟩
  exact (Mods.refl _ _).alloc _ |>.alloc _
theorem rapart_any (a h k : Nat) (w : World) : Calls Tryz.prog 91 #[.int .u64 (a : Int), .int .u64 (h : Int), .int .u64 (k : Int)] w fun e w' => e = .returned (.bool (askN a k h)) ∧ w = w' := by
  by_cases h1 : a = k
  · subst h1
    have h2 := nat_ne_self a
    rw [askN_self]
    go_enter Tryz.func91, Tryz.ntmps91
    go_wp2_with fail
    go_ret
    exact ⟨rfl, rfl⟩
  · have h2 := nat_ne h1
    by_cases h3 : a = h
    · subst h3
      have h4 := nat_ne_self a
      rw [askN_same]
      go_enter Tryz.func91, Tryz.ntmps91
      go_wp2_with fail
      go_ret
      exact ⟨rfl, rfl⟩
    · have h4 := nat_ne h3
      rw [show askN a k h = true by simp [askN, h1, h3]]
      go_enter Tryz.func91, Tryz.ntmps91
      go_wp2_with fail
      go_ret
      exact ⟨rfl, rfl⟩
theorem rset_any (f : Int) (b : Bool) (w : World) : Calls Tryz.prog 90 #[.int .u16 f, .bool b] w fun e w' => e = .returned (.int .u16 (sel b f 0)) ∧ w = w' := by
  cases b
  · go_enter Tryz.func90, Tryz.ntmps90
    go_wp2_with fail
    go_ret
    exact ⟨rfl, rfl⟩
  · go_enter Tryz.func90, Tryz.ntmps90
    go_wp2_with fail
    go_ret
    exact ⟨rfl, rfl⟩
theorem or_set (l : List Bool) (b : Bool) (k : Nat) (hk : k < 13) (hl : l.length = k) (p : Int) (hp : p = ((2 ^ k : Nat) : Int)) : bits .or .u16 (maskL l : Int) (sel b p 0) = (maskL (l ++ [b]) : Int) := by
  subst hp
  have hx := maskL_lt l
  rw [hl] at hx
  have h2 : 2 ^ k ≤ 4096 := Nat.pow_le_pow_right (n := 2) (by omega) (by omega : k ≤ 12)
  rw [maskL_snoc, hl]
  cases b
  · simp only [sel, Bool.false_eq_true, if_false, Nat.add_zero]
    have := u16_or_nat (maskL l) 0 (by omega) (by omega)
    simpa using this
  · simp only [sel, if_true]
    exact or_bit (maskL l) k hx hk
theorem askT_empty (a h : ByteArray) : askT a ⟨#[]⟩ h = (!a.toList.isEmpty && !a.toList == h.toList) := by
  rw [askT_list]
  rw [show (ByteArray.toList ⟨#[]⟩) = [] by rw [ByteArray.toList_eq]]
  cases a.toList <;> rfl
set_option maxRecDepth 100000 in
set_option maxHeartbeats 2000000 in
theorem rtouched_any (a h : StatP) (w : World) (ha : a.Fits) (hh : h.Fits) :
    Calls Tryz.prog 42 #[.agg (statV a), .agg (statV h)] w fun e w' => e = .returned (.int .u16 (touched a h : Int)) ∧ Mods [] w w' := by
  have M0 := Lib.hid (((Mods.refl [] w).alloc (.cells (statV a) 35)).alloc (.cells (statV h) 35))
  have A0 := Lib.hid ((Go.heap_alloc_old (w.alloc (.cells (statV a) 35)) (.cells (statV h) 35) (by simp)).trans (heap_alloc_new w (.cells (statV a) 35)))
  have hb := heap_alloc_new (w.alloc (.cells (statV a) 35)) (.cells (statV h) 35)
  rw [World.size_alloc] at hb
  have B0 := Lib.hid hb
  clear hb
  have HA := Lib.hid ha
  have HH := Lib.hid hh
  clear ha hh
  simp only [statV] at M0 A0 B0 ⊢
  go_enter Tryz.func42, Tryz.ntmps42
  have qa := wrap_u64_big a.typ (by have := HA.out.typ; omega)
  have qb := wrap_u64_big h.typ (by have := HH.out.typ; omega)
  go_wp2_with fail
  clear qa qb
  generalize ((w.alloc (.cells #[.int .u16 (a.typ : Int), .int .u32 (a.dev : Int), .int .u8 (a.qid.kind : Int), .int .u32 (a.qid.vers : Int), .int .u64 (a.qid.path : Int), .int .u32 (a.mode : Int), .int .u32 (a.atime : Int), .int .u32 (a.mtime : Int), .int .u64 (a.length : Int), .string a.name, .string a.uid, .string a.gid, .string a.muid] 35)).alloc (.cells #[.int .u16 (h.typ : Int), .int .u32 (h.dev : Int), .int .u8 (h.qid.kind : Int), .int .u32 (h.qid.vers : Int), .int .u64 (h.qid.path : Int), .int .u32 (h.mode : Int), .int .u32 (h.atime : Int), .int .u32 (h.mtime : Int), .int .u64 (h.length : Int), .string h.name, .string h.uid, .string h.gid, .string h.muid] 35)) = w2 at *
  generalize w.heap.size + 1 = bh at *
  generalize w.heap.size = ba at *
  have c0 : w2.cell? ⟨ba, 0, none⟩ = some (.int .u16 (a.typ : Int)) := (cell_of_row _ _ _ _ _ _ A0.out).trans rfl
  have d0 : w2.cell? ⟨bh, 0, none⟩ = some (.int .u16 (h.typ : Int)) := (cell_of_row _ _ _ _ _ _ B0.out).trans rfl
  have c1 : w2.cell? ⟨ba, 1, none⟩ = some (.int .u32 (a.dev : Int)) := (cell_of_row _ _ _ _ _ _ A0.out).trans rfl
  have d1 : w2.cell? ⟨bh, 1, none⟩ = some (.int .u32 (h.dev : Int)) := (cell_of_row _ _ _ _ _ _ B0.out).trans rfl
  have c2 : w2.cell? ⟨ba, 2, none⟩ = some (.int .u8 (a.qid.kind : Int)) := (cell_of_row _ _ _ _ _ _ A0.out).trans rfl
  have d2 : w2.cell? ⟨bh, 2, none⟩ = some (.int .u8 (h.qid.kind : Int)) := (cell_of_row _ _ _ _ _ _ B0.out).trans rfl
  have c3 : w2.cell? ⟨ba, 3, none⟩ = some (.int .u32 (a.qid.vers : Int)) := (cell_of_row _ _ _ _ _ _ A0.out).trans rfl
  have d3 : w2.cell? ⟨bh, 3, none⟩ = some (.int .u32 (h.qid.vers : Int)) := (cell_of_row _ _ _ _ _ _ B0.out).trans rfl
  have c4 : w2.cell? ⟨ba, 4, none⟩ = some (.int .u64 (a.qid.path : Int)) := (cell_of_row _ _ _ _ _ _ A0.out).trans rfl
  have d4 : w2.cell? ⟨bh, 4, none⟩ = some (.int .u64 (h.qid.path : Int)) := (cell_of_row _ _ _ _ _ _ B0.out).trans rfl
  have c5 : w2.cell? ⟨ba, 5, none⟩ = some (.int .u32 (a.mode : Int)) := (cell_of_row _ _ _ _ _ _ A0.out).trans rfl
  have d5 : w2.cell? ⟨bh, 5, none⟩ = some (.int .u32 (h.mode : Int)) := (cell_of_row _ _ _ _ _ _ B0.out).trans rfl
  have c6 : w2.cell? ⟨ba, 6, none⟩ = some (.int .u32 (a.atime : Int)) := (cell_of_row _ _ _ _ _ _ A0.out).trans rfl
  have d6 : w2.cell? ⟨bh, 6, none⟩ = some (.int .u32 (h.atime : Int)) := (cell_of_row _ _ _ _ _ _ B0.out).trans rfl
  have c7 : w2.cell? ⟨ba, 7, none⟩ = some (.int .u32 (a.mtime : Int)) := (cell_of_row _ _ _ _ _ _ A0.out).trans rfl
  have d7 : w2.cell? ⟨bh, 7, none⟩ = some (.int .u32 (h.mtime : Int)) := (cell_of_row _ _ _ _ _ _ B0.out).trans rfl
  have c8 : w2.cell? ⟨ba, 8, none⟩ = some (.int .u64 (a.length : Int)) := (cell_of_row _ _ _ _ _ _ A0.out).trans rfl
  have d8 : w2.cell? ⟨bh, 8, none⟩ = some (.int .u64 (h.length : Int)) := (cell_of_row _ _ _ _ _ _ B0.out).trans rfl
  have c9 : w2.cell? ⟨ba, 9, none⟩ = some (.string a.name) := (cell_of_row _ _ _ _ _ _ A0.out).trans rfl
  have d9 : w2.cell? ⟨bh, 9, none⟩ = some (.string h.name) := (cell_of_row _ _ _ _ _ _ B0.out).trans rfl
  have c10 : w2.cell? ⟨ba, 10, none⟩ = some (.string a.uid) := (cell_of_row _ _ _ _ _ _ A0.out).trans rfl
  have d10 : w2.cell? ⟨bh, 10, none⟩ = some (.string h.uid) := (cell_of_row _ _ _ _ _ _ B0.out).trans rfl
  have c11 : w2.cell? ⟨ba, 11, none⟩ = some (.string a.gid) := (cell_of_row _ _ _ _ _ _ A0.out).trans rfl
  have d11 : w2.cell? ⟨bh, 11, none⟩ = some (.string h.gid) := (cell_of_row _ _ _ _ _ _ B0.out).trans rfl
  have c12 : w2.cell? ⟨ba, 12, none⟩ = some (.string a.muid) := (cell_of_row _ _ _ _ _ _ A0.out).trans rfl
  have d12 : w2.cell? ⟨bh, 12, none⟩ = some (.string h.muid) := (cell_of_row _ _ _ _ _ _ B0.out).trans rfl
  refine (rapart_any a.typ h.typ 65535 _).mono ?_; rintro e w1 ⟨rfl, rfl⟩
  generalize hb : askN a.typ 65535 h.typ = b0 at *
  have HB0 := Lib.hid hb
  clear hb
  go_wp2_with fail
  refine (rset_any _ b0 _).mono ?_; rintro e w1 ⟨rfl, rfl⟩
  obtain ⟨f1, HF⟩ : ∃ x, bits .or .u16 0 (sel b0 1 0) = x := ⟨_, rfl⟩
  have HF1 := Lib.hid HF
  -- field 1
  have qa := wrap_u64_big a.dev (by have := HA.out.dev; omega)
  have qb := wrap_u64_big h.dev (by have := HH.out.dev; omega)
  go_wp2_with fail
  clear HF
  clear qa qb
  refine (rapart_any a.dev h.dev 4294967295 _).mono ?_; rintro e w1 ⟨rfl, rfl⟩
  generalize hb : askN a.dev 4294967295 h.dev = b1 at *
  have HB1 := Lib.hid hb
  clear hb
  go_wp2_with fail
  refine (rset_any _ b1 _).mono ?_; rintro e w1 ⟨rfl, rfl⟩
  obtain ⟨f2, HF⟩ : ∃ x, bits .or .u16 f1 (sel b1 2 0) = x := ⟨_, rfl⟩
  have HF2 := Lib.hid HF
  -- field 2
  have qa := wrap_u64_big a.qid.kind (by have := HA.out.qid.kind; omega)
  have qb := wrap_u64_big h.qid.kind (by have := HH.out.qid.kind; omega)
  go_wp2_with fail
  clear HF
  clear qa qb
  refine (rapart_any a.qid.kind h.qid.kind 255 _).mono ?_; rintro e w1 ⟨rfl, rfl⟩
  generalize hb : askN a.qid.kind 255 h.qid.kind = b2 at *
  have HB2 := Lib.hid hb
  clear hb
  go_wp2_with fail
  refine (rset_any _ b2 _).mono ?_; rintro e w1 ⟨rfl, rfl⟩
  obtain ⟨f3, HF⟩ : ∃ x, bits .or .u16 f2 (sel b2 4 0) = x := ⟨_, rfl⟩
  have HF3 := Lib.hid HF
  -- field 3
  have qa := wrap_u64_big a.qid.vers (by have := HA.out.qid.vers; omega)
  have qb := wrap_u64_big h.qid.vers (by have := HH.out.qid.vers; omega)
  go_wp2_with fail
  clear HF
  clear qa qb
  refine (rapart_any a.qid.vers h.qid.vers 4294967295 _).mono ?_; rintro e w1 ⟨rfl, rfl⟩
  generalize hb : askN a.qid.vers 4294967295 h.qid.vers = b3 at *
  have HB3 := Lib.hid hb
  clear hb
  go_wp2_with fail
  refine (rset_any _ b3 _).mono ?_; rintro e w1 ⟨rfl, rfl⟩
  obtain ⟨f4, HF⟩ : ∃ x, bits .or .u16 f3 (sel b3 8 0) = x := ⟨_, rfl⟩
  have HF4 := Lib.hid HF
  -- field 4
  go_wp2_with fail
  clear HF
  refine (rapart_any a.qid.path h.qid.path 18446744073709551615 _).mono ?_; rintro e w1 ⟨rfl, rfl⟩
  generalize hb : askN a.qid.path 18446744073709551615 h.qid.path = b4 at *
  have HB4 := Lib.hid hb
  clear hb
  go_wp2_with fail
  refine (rset_any _ b4 _).mono ?_; rintro e w1 ⟨rfl, rfl⟩
  obtain ⟨f5, HF⟩ : ∃ x, bits .or .u16 f4 (sel b4 16 0) = x := ⟨_, rfl⟩
  have HF5 := Lib.hid HF
  -- field 5
  have qa := wrap_u64_big a.mode (by have := HA.out.mode; omega)
  have qb := wrap_u64_big h.mode (by have := HH.out.mode; omega)
  go_wp2_with fail
  clear HF
  clear qa qb
  refine (rapart_any a.mode h.mode 4294967295 _).mono ?_; rintro e w1 ⟨rfl, rfl⟩
  generalize hb : askN a.mode 4294967295 h.mode = b5 at *
  have HB5 := Lib.hid hb
  clear hb
  go_wp2_with fail
  refine (rset_any _ b5 _).mono ?_; rintro e w1 ⟨rfl, rfl⟩
  obtain ⟨f6, HF⟩ : ∃ x, bits .or .u16 f5 (sel b5 32 0) = x := ⟨_, rfl⟩
  have HF6 := Lib.hid HF
  -- field 6
  have qa := wrap_u64_big a.atime (by have := HA.out.atime; omega)
  have qb := wrap_u64_big h.atime (by have := HH.out.atime; omega)
  go_wp2_with fail
  clear HF
  clear qa qb
  refine (rapart_any a.atime h.atime 4294967295 _).mono ?_; rintro e w1 ⟨rfl, rfl⟩
  generalize hb : askN a.atime 4294967295 h.atime = b6 at *
  have HB6 := Lib.hid hb
  clear hb
  go_wp2_with fail
  refine (rset_any _ b6 _).mono ?_; rintro e w1 ⟨rfl, rfl⟩
  obtain ⟨f7, HF⟩ : ∃ x, bits .or .u16 f6 (sel b6 64 0) = x := ⟨_, rfl⟩
  have HF7 := Lib.hid HF
  -- field 7
  have qa := wrap_u64_big a.mtime (by have := HA.out.mtime; omega)
  have qb := wrap_u64_big h.mtime (by have := HH.out.mtime; omega)
  go_wp2_with fail
  clear HF
  clear qa qb
  refine (rapart_any a.mtime h.mtime 4294967295 _).mono ?_; rintro e w1 ⟨rfl, rfl⟩
  generalize hb : askN a.mtime 4294967295 h.mtime = b7 at *
  have HB7 := Lib.hid hb
  clear hb
  go_wp2_with fail
  refine (rset_any _ b7 _).mono ?_; rintro e w1 ⟨rfl, rfl⟩
  obtain ⟨f8, HF⟩ : ∃ x, bits .or .u16 f7 (sel b7 128 0) = x := ⟨_, rfl⟩
  have HF8 := Lib.hid HF
  -- field 8
  go_wp2_with fail
  clear HF
  refine (rapart_any a.length h.length 18446744073709551615 _).mono ?_; rintro e w1 ⟨rfl, rfl⟩
  generalize hb : askN a.length 18446744073709551615 h.length = b8 at *
  have HB8 := Lib.hid hb
  clear hb
  go_wp2_with fail
  refine (rset_any _ b8 _).mono ?_; rintro e w1 ⟨rfl, rfl⟩
  obtain ⟨f9, HF⟩ : ∃ x, bits .or .u16 f8 (sel b8 256 0) = x := ⟨_, rfl⟩
  have HF9 := Lib.hid HF
  -- field 9
  go_upto_region 11 with fail
  clear HF
  go_cut [5] from 6 (fun f wx => ∃ x, f = .int .u16 x ∧ bits .or .u16 f9 (sel (askT a.name ⟨#[]⟩ h.name) 512 0) = x ∧ w2 = wx)
  case first =>
    have hx := askT_empty a.name h.name
    generalize askT a.name ⟨#[]⟩ h.name = b9 at *
    by_cases h1 : a.name.toList.isEmpty = true
    · go_wp2_with fail
      refine (rset_any _ _ _).mono ?_; rintro e w1 ⟨rfl, rfl⟩
      go_wp2_with fail
      go_meet
      exact ⟨_, rfl, by rw [hx, h1]; rfl, rfl⟩
    · have h2 : a.name.toList.isEmpty = false := by simpa using h1
      go_wp2_with fail
      refine (rset_any _ _ _).mono ?_; rintro e w1 ⟨rfl, rfl⟩
      go_wp2_with fail
      go_meet
      exact ⟨_, rfl, by rw [hx, h2]; rfl, rfl⟩
  obtain ⟨f10, rfl, HF, rfl⟩ := hcut
  have HF10 := Lib.hid HF
  -- field 10
  go_upto_region 12 with fail
  clear HF
  go_cut [5] from 6 (fun f wx => ∃ x, f = .int .u16 x ∧ bits .or .u16 f10 (sel (askT a.uid ⟨#[]⟩ h.uid) 1024 0) = x ∧ w2 = wx)
  case first =>
    have hx := askT_empty a.uid h.uid
    generalize askT a.uid ⟨#[]⟩ h.uid = b10 at *
    by_cases h1 : a.uid.toList.isEmpty = true
    · go_wp2_with fail
      refine (rset_any _ _ _).mono ?_; rintro e w1 ⟨rfl, rfl⟩
      go_wp2_with fail
      go_meet
      exact ⟨_, rfl, by rw [hx, h1]; rfl, rfl⟩
    · have h2 : a.uid.toList.isEmpty = false := by simpa using h1
      go_wp2_with fail
      refine (rset_any _ _ _).mono ?_; rintro e w1 ⟨rfl, rfl⟩
      go_wp2_with fail
      go_meet
      exact ⟨_, rfl, by rw [hx, h2]; rfl, rfl⟩
  obtain ⟨f11, rfl, HF, rfl⟩ := hcut
  have HF11 := Lib.hid HF
  -- field 11
  go_upto_region 13 with fail
  clear HF
  go_cut [5] from 6 (fun f wx => ∃ x, f = .int .u16 x ∧ bits .or .u16 f11 (sel (askT a.gid ⟨#[]⟩ h.gid) 2048 0) = x ∧ w2 = wx)
  case first =>
    have hx := askT_empty a.gid h.gid
    generalize askT a.gid ⟨#[]⟩ h.gid = b11 at *
    by_cases h1 : a.gid.toList.isEmpty = true
    · go_wp2_with fail
      refine (rset_any _ _ _).mono ?_; rintro e w1 ⟨rfl, rfl⟩
      go_wp2_with fail
      go_meet
      exact ⟨_, rfl, by rw [hx, h1]; rfl, rfl⟩
    · have h2 : a.gid.toList.isEmpty = false := by simpa using h1
      go_wp2_with fail
      refine (rset_any _ _ _).mono ?_; rintro e w1 ⟨rfl, rfl⟩
      go_wp2_with fail
      go_meet
      exact ⟨_, rfl, by rw [hx, h2]; rfl, rfl⟩
  obtain ⟨f12, rfl, HF, rfl⟩ := hcut
  have HF12 := Lib.hid HF
  -- field 12
  go_upto_region 14 with fail
  clear HF
  go_cut [5] from 6 (fun f wx => ∃ x, f = .int .u16 x ∧ bits .or .u16 f12 (sel (askT a.muid ⟨#[]⟩ h.muid) 4096 0) = x ∧ w2 = wx)
  case first =>
    have hx := askT_empty a.muid h.muid
    generalize askT a.muid ⟨#[]⟩ h.muid = b12 at *
    by_cases h1 : a.muid.toList.isEmpty = true
    · go_wp2_with fail
      refine (rset_any _ _ _).mono ?_; rintro e w1 ⟨rfl, rfl⟩
      go_wp2_with fail
      go_meet
      exact ⟨_, rfl, by rw [hx, h1]; rfl, rfl⟩
    · have h2 : a.muid.toList.isEmpty = false := by simpa using h1
      go_wp2_with fail
      refine (rset_any _ _ _).mono ?_; rintro e w1 ⟨rfl, rfl⟩
      go_wp2_with fail
      go_meet
      exact ⟨_, rfl, by rw [hx, h2]; rfl, rfl⟩
  obtain ⟨f13, rfl, HF, rfl⟩ := hcut
  have HF13 := Lib.hid HF
  go_wp2_with fail
  go_ret
  have e1 : f1 = (maskL [b0] : Int) := by rw [← HF1.out]; exact or_set [] (b0) 0 (by omega) rfl 1 rfl
  have e2 : f2 = (maskL [b0, b1] : Int) := by rw [← HF2.out, e1]; exact or_set [b0] (b1) 1 (by omega) rfl 2 rfl
  have e3 : f3 = (maskL [b0, b1, b2] : Int) := by rw [← HF3.out, e2]; exact or_set [b0, b1] (b2) 2 (by omega) rfl 4 rfl
  have e4 : f4 = (maskL [b0, b1, b2, b3] : Int) := by rw [← HF4.out, e3]; exact or_set [b0, b1, b2] (b3) 3 (by omega) rfl 8 rfl
  have e5 : f5 = (maskL [b0, b1, b2, b3, b4] : Int) := by rw [← HF5.out, e4]; exact or_set [b0, b1, b2, b3] (b4) 4 (by omega) rfl 16 rfl
  have e6 : f6 = (maskL [b0, b1, b2, b3, b4, b5] : Int) := by rw [← HF6.out, e5]; exact or_set [b0, b1, b2, b3, b4] (b5) 5 (by omega) rfl 32 rfl
  have e7 : f7 = (maskL [b0, b1, b2, b3, b4, b5, b6] : Int) := by rw [← HF7.out, e6]; exact or_set [b0, b1, b2, b3, b4, b5] (b6) 6 (by omega) rfl 64 rfl
  have e8 : f8 = (maskL [b0, b1, b2, b3, b4, b5, b6, b7] : Int) := by rw [← HF8.out, e7]; exact or_set [b0, b1, b2, b3, b4, b5, b6] (b7) 7 (by omega) rfl 128 rfl
  have e9 : f9 = (maskL [b0, b1, b2, b3, b4, b5, b6, b7, b8] : Int) := by rw [← HF9.out, e8]; exact or_set [b0, b1, b2, b3, b4, b5, b6, b7] (b8) 8 (by omega) rfl 256 rfl
  have e10 : f10 = (maskL [b0, b1, b2, b3, b4, b5, b6, b7, b8, askT a.name ⟨#[]⟩ h.name] : Int) := by rw [← HF10.out, e9]; exact or_set [b0, b1, b2, b3, b4, b5, b6, b7, b8] (askT a.name ⟨#[]⟩ h.name) 9 (by omega) rfl 512 rfl
  have e11 : f11 = (maskL [b0, b1, b2, b3, b4, b5, b6, b7, b8, askT a.name ⟨#[]⟩ h.name, askT a.uid ⟨#[]⟩ h.uid] : Int) := by rw [← HF11.out, e10]; exact or_set [b0, b1, b2, b3, b4, b5, b6, b7, b8, askT a.name ⟨#[]⟩ h.name] (askT a.uid ⟨#[]⟩ h.uid) 10 (by omega) rfl 1024 rfl
  have e12 : f12 = (maskL [b0, b1, b2, b3, b4, b5, b6, b7, b8, askT a.name ⟨#[]⟩ h.name, askT a.uid ⟨#[]⟩ h.uid, askT a.gid ⟨#[]⟩ h.gid] : Int) := by rw [← HF12.out, e11]; exact or_set [b0, b1, b2, b3, b4, b5, b6, b7, b8, askT a.name ⟨#[]⟩ h.name, askT a.uid ⟨#[]⟩ h.uid] (askT a.gid ⟨#[]⟩ h.gid) 11 (by omega) rfl 2048 rfl
  have e13 : f13 = (maskL [b0, b1, b2, b3, b4, b5, b6, b7, b8, askT a.name ⟨#[]⟩ h.name, askT a.uid ⟨#[]⟩ h.uid, askT a.gid ⟨#[]⟩ h.gid, askT a.muid ⟨#[]⟩ h.muid] : Int) := by rw [← HF13.out, e12]; exact or_set [b0, b1, b2, b3, b4, b5, b6, b7, b8, askT a.name ⟨#[]⟩ h.name, askT a.uid ⟨#[]⟩ h.uid, askT a.gid ⟨#[]⟩ h.gid] (askT a.muid ⟨#[]⟩ h.muid) 12 (by omega) rfl 4096 rfl
  have et : touch a h = [b0, b1, b2, b3, b4, b5, b6, b7, b8, askT a.name ⟨#[]⟩ h.name, askT a.uid ⟨#[]⟩ h.uid, askT a.gid ⟨#[]⟩ h.gid, askT a.muid ⟨#[]⟩ h.muid] := by simp only [touch, keepS, HB0.out, HB1.out, HB2.out, HB3.out, HB4.out, HB5.out, HB6.out, HB7.out, HB8.out]
  exact ⟨by rw [e13, ← et]; rfl, M0.out⟩
end Go.Proofs.YtnpokdbpmnkbjaaGreatDoor
