/- The reference's Over. (Printed by wip/bin/genover2.py.) -/
import Derived.Test.YtnpokdbpmnkbjaaGreatDoorZc
import Derived.Test.YtnpokdbpmnkbjaaGreatDoorTk
import Derived.Test.YtnpokdbpmnkbjaaGreatDoorOv
namespace Go.Proofs.YtnpokdbpmnkbjaaGreatDoor
open Go.RowKit Me

theorem sel_same {a k : Nat} (h : Nat) (e : a = k) : sel (askN a k h) a h = h := by
  subst e
  rw [askN_self]
  rfl
theorem sel_other2 {a k : Nat} (h : Nat) (e : a ≠ k) : sel (askN a k h) a h = a := by
  by_cases g : a = h
  · subst g
    cases askN a k a <;> rfl
  · rw [show askN a k h = true by simp [askN, e, g]]
    rfl
theorem sel_empty {a : ByteArray} (h : ByteArray) (e : a.toList.isEmpty = true) : sel (askT a ⟨#[]⟩ h) a h = h := by
  rw [askT_empty, e]
  rfl
theorem sel_full {a : ByteArray} (h : ByteArray) (e : a.toList.isEmpty = false) : sel (askT a ⟨#[]⟩ h) a h = a := by
  rw [askT_empty, e]
  by_cases g : a = h
  · subst g
    cases (!false && !a.toList == a.toList) <;> rfl
  · rw [show (a.toList == h.toList) = false by rw [list_eq]; simp [g]]
    rfl
structure OvS (w : World) (a h : StatP) (ba bh b4 b5 b6 : Nat) (row : Array Value) (v : World) : Prop where
  mods : Mods [] w v
  wa : v.heap[ba]? = some (.cells (statV a) 35 (0, 0))
  keep : v.heap[b5]? = some (.cells (statV keepS) 35 (0, 0))
  res : v.heap[b4]? = some (.cells zeroV 35 (0, 0))
  row : v.heap[b6]? = some (.cells row 35 (0, 0))
structure OvN (w : World) (ba b4 b5 b6 : Nat) : Prop where
  n : w.heap.size ≤ b6
  a : ba ≠ b6
  r : b4 ≠ b6
  k : b5 ≠ b6
theorem OvS.set {w v : World} {a h : StatP} {ba bh b4 b5 b6 : Nat} {row : Array Value} (n : OvN w ba b4 b5 b6) (s : OvS w a h ba bh b4 b5 b6 row v) (i : Nat) (u : Value) : OvS w a h ba bh b4 b5 b6 (row.setIfInBounds i u) (v.setCell ⟨b6, i, none⟩ u) :=
  ⟨s.mods.setCell (p := ⟨b6, i, none⟩) (Or.inr n.n) u, (heap_setCell_other v ⟨b6, i, none⟩ ba u n.a).trans s.wa, (heap_setCell_other v ⟨b6, i, none⟩ b5 u n.k).trans s.keep,
   (heap_setCell_other v ⟨b6, i, none⟩ b4 u n.r).trans s.res, heap_setCell_same v b6 i row 35 u s.row⟩
set_option maxRecDepth 100000 in
set_option maxHeartbeats 2000000 in
theorem rover_any (a h : StatP) (w : World) : Calls Tryz.prog 43 #[.agg (statV a), .agg (statV h)] w fun e w' => e = .returned (.agg (statV (overS a h))) ∧ Mods [] w w' := by
  have M0 := Lib.hid ((((Mods.refl [] w).alloc (.cells (statV a) 35)).alloc (.cells (statV h) 35)).alloc (.cells zeroV 35))
  have hA := (Go.heap_alloc_old ((w.alloc (.cells (statV a) 35)).alloc (.cells (statV h) 35)) (.cells zeroV 35) (by simp; omega)).trans ((Go.heap_alloc_old (w.alloc (.cells (statV a) 35)) (.cells (statV h) 35) (by simp)).trans (heap_alloc_new w (.cells (statV a) 35)))
  have hB := (Go.heap_alloc_old ((w.alloc (.cells (statV a) 35)).alloc (.cells (statV h) 35)) (.cells zeroV 35) (by simp)).trans (heap_alloc_new (w.alloc (.cells (statV a) 35)) (.cells (statV h) 35))
  have hZ := heap_alloc_new ((w.alloc (.cells (statV a) 35)).alloc (.cells (statV h) 35)) (.cells zeroV 35)
  rw [World.size_alloc] at hB
  rw [World.size_alloc, World.size_alloc] at hZ
  have A0 := Lib.hid hA
  have B0 := Lib.hid hB
  have Z0 := Lib.hid hZ
  clear hA hB hZ
  unfold zeroV at M0 A0 B0 Z0
  go_enter Tryz.func43, Tryz.ntmps43
  go_wp2_with fail
  generalize hv : ((w.alloc (.cells (statV a) 35)).alloc (.cells (statV h) 35)).alloc (.cells #[.int .u16 0, .int .u32 0, .int .u8 0, .int .u32 0, .int .u64 0, .int .u32 0, .int .u32 0, .int .u32 0, .int .u64 0, .string ⟨#[]⟩, .string ⟨#[]⟩, .string ⟨#[]⟩, .string ⟨#[]⟩] 35) = v at *
  clear hv
  refine (rkeep_any v).mono ?_; rintro e w1 ⟨rfl, hm⟩
  have M1 := Lib.hid (M0.out.trans hm (by simp))
  have A1 := Lib.hid (hm.heap A0.out (by simp))
  have B1 := Lib.hid (hm.heap B0.out (by simp))
  have Z1 := Lib.hid (hm.heap Z0.out (by simp))
  clear hm M0 A0 B0 Z0
  simp only [statV, keepS] at A1 B1 ⊢
  go_upto_region 2 with fail
  have w1b : w.heap.size + 2 < w1.heap.size := (Array.getElem?_eq_some_iff.1 Z1.out).1
  have hk := (Mods.refl [] w1).alloc (.cells #[.int .u16 65535, .int .u32 4294967295, .int .u8 255, .int .u32 4294967295, .int .u64 18446744073709551615, .int .u32 4294967295, .int .u32 4294967295, .int .u32 4294967295, .int .u64 18446744073709551615, .string ⟨#[]⟩, .string ⟨#[]⟩, .string ⟨#[]⟩, .string ⟨#[]⟩] 35)
  have M2 := Lib.hid (M1.out.trans hk (by simp))
  have A2 := Lib.hid (hk.heap A1.out (by simp))
  have B2 := Lib.hid (hk.heap B1.out (by simp))
  have Z2 := Lib.hid (hk.heap Z1.out (by simp))
  have K2 := Lib.hid (heap_alloc_new w1 (.cells #[.int .u16 65535, .int .u32 4294967295, .int .u8 255, .int .u32 4294967295, .int .u64 18446744073709551615, .int .u32 4294967295, .int .u32 4294967295, .int .u32 4294967295, .int .u64 18446744073709551615, .string ⟨#[]⟩, .string ⟨#[]⟩, .string ⟨#[]⟩, .string ⟨#[]⟩] 35))
  clear hk M1 A1 B1 Z1
  generalize w1.alloc (.cells #[.int .u16 65535, .int .u32 4294967295, .int .u8 255, .int .u32 4294967295, .int .u64 18446744073709551615, .int .u32 4294967295, .int .u32 4294967295, .int .u32 4294967295, .int .u64 18446744073709551615, .string ⟨#[]⟩, .string ⟨#[]⟩, .string ⟨#[]⟩, .string ⟨#[]⟩] 35) = w2 at *
  generalize hb5 : w1.heap.size = b5 at *
  generalize hb0 : w.heap.size = b0 at *
  clear hb5
  have HB0 : Hid (w.heap.size ≤ b0) := Lib.hid (by omega)
  have c0 : w2.cell? ⟨b0 + 1, 0, none⟩ = some (.int .u16 (h.typ : Int)) := (cell_of_row _ _ _ _ _ _ B2.out).trans rfl
  have c1 : w2.cell? ⟨b0 + 1, 1, none⟩ = some (.int .u32 (h.dev : Int)) := (cell_of_row _ _ _ _ _ _ B2.out).trans rfl
  have c2 : w2.cell? ⟨b0 + 1, 2, none⟩ = some (.int .u8 (h.qid.kind : Int)) := (cell_of_row _ _ _ _ _ _ B2.out).trans rfl
  have c3 : w2.cell? ⟨b0 + 1, 3, none⟩ = some (.int .u32 (h.qid.vers : Int)) := (cell_of_row _ _ _ _ _ _ B2.out).trans rfl
  have c4 : w2.cell? ⟨b0 + 1, 4, none⟩ = some (.int .u64 (h.qid.path : Int)) := (cell_of_row _ _ _ _ _ _ B2.out).trans rfl
  have c5 : w2.cell? ⟨b0 + 1, 5, none⟩ = some (.int .u32 (h.mode : Int)) := (cell_of_row _ _ _ _ _ _ B2.out).trans rfl
  have c6 : w2.cell? ⟨b0 + 1, 6, none⟩ = some (.int .u32 (h.atime : Int)) := (cell_of_row _ _ _ _ _ _ B2.out).trans rfl
  have c7 : w2.cell? ⟨b0 + 1, 7, none⟩ = some (.int .u32 (h.mtime : Int)) := (cell_of_row _ _ _ _ _ _ B2.out).trans rfl
  have c8 : w2.cell? ⟨b0 + 1, 8, none⟩ = some (.int .u64 (h.length : Int)) := (cell_of_row _ _ _ _ _ _ B2.out).trans rfl
  have c9 : w2.cell? ⟨b0 + 1, 9, none⟩ = some (.string h.name) := (cell_of_row _ _ _ _ _ _ B2.out).trans rfl
  have c10 : w2.cell? ⟨b0 + 1, 10, none⟩ = some (.string h.uid) := (cell_of_row _ _ _ _ _ _ B2.out).trans rfl
  have c11 : w2.cell? ⟨b0 + 1, 11, none⟩ = some (.string h.gid) := (cell_of_row _ _ _ _ _ _ B2.out).trans rfl
  have c12 : w2.cell? ⟨b0 + 1, 12, none⟩ = some (.string h.muid) := (cell_of_row _ _ _ _ _ _ B2.out).trans rfl
  go_upto_region 3 with fail
  clear c0 c1 c2 c3 c4 c5 c6 c7 c8 c9 c10 c11 c12
  have w2b : b5 < w2.heap.size := (Array.getElem?_eq_some_iff.1 K2.out).1
  have hk := (Mods.refl [] w2).alloc (.cells #[.int .u16 (h.typ : Int), .int .u32 (h.dev : Int), .int .u8 (h.qid.kind : Int), .int .u32 (h.qid.vers : Int), .int .u64 (h.qid.path : Int), .int .u32 (h.mode : Int), .int .u32 (h.atime : Int), .int .u32 (h.mtime : Int), .int .u64 (h.length : Int), .string h.name, .string h.uid, .string h.gid, .string h.muid] 35)
  have S0 : Hid (OvS w a h b0 (b0 + 1) (b0 + 2) b5 w2.heap.size #[.int .u16 (h.typ : Int), .int .u32 (h.dev : Int), .int .u8 (h.qid.kind : Int), .int .u32 (h.qid.vers : Int), .int .u64 (h.qid.path : Int), .int .u32 (h.mode : Int), .int .u32 (h.atime : Int), .int .u32 (h.mtime : Int), .int .u64 (h.length : Int), .string h.name, .string h.uid, .string h.gid, .string h.muid] (w2.alloc (.cells #[.int .u16 (h.typ : Int), .int .u32 (h.dev : Int), .int .u8 (h.qid.kind : Int), .int .u32 (h.qid.vers : Int), .int .u64 (h.qid.path : Int), .int .u32 (h.mode : Int), .int .u32 (h.atime : Int), .int .u32 (h.mtime : Int), .int .u64 (h.length : Int), .string h.name, .string h.uid, .string h.gid, .string h.muid] 35))) := Lib.hid ⟨M2.out.trans hk (by simp), hk.heap A2.out (by simp), hk.heap K2.out (by simp), hk.heap Z2.out (by simp), heap_alloc_new w2 _⟩
  have ON : Hid (OvN w b0 (b0 + 2) b5 w2.heap.size) := Lib.hid ⟨by omega, by omega, by omega, by omega⟩
  clear hk w1b w2b hb0 M2 A2 B2 Z2 K2
  generalize w2.alloc (.cells #[.int .u16 (h.typ : Int), .int .u32 (h.dev : Int), .int .u8 (h.qid.kind : Int), .int .u32 (h.qid.vers : Int), .int .u64 (h.qid.path : Int), .int .u32 (h.mode : Int), .int .u32 (h.atime : Int), .int .u32 (h.mtime : Int), .int .u64 (h.length : Int), .string h.name, .string h.uid, .string h.gid, .string h.muid] 35) = z0 at *
  generalize w2.heap.size = b6 at *
  have a0 : z0.cell? ⟨b0, 0, none⟩ = some (.int .u16 (a.typ : Int)) := (cell_of_row _ _ _ _ _ _ S0.out.wa).trans rfl
  have d0 : z0.cell? ⟨b5, 0, none⟩ = some (.int .u16 65535) := (cell_of_row _ _ _ _ _ _ S0.out.keep).trans rfl
  go_upto_if 13 with fail
  go_cut [] from 9 (fun wx => ∃ x : Nat, sel (askN a.typ 65535 h.typ) a.typ h.typ = x ∧ OvS w a h b0 (b0 + 1) (b0 + 2) b5 b6 #[.int .u16 (x : Int), .int .u32 (h.dev : Int), .int .u8 (h.qid.kind : Int), .int .u32 (h.qid.vers : Int), .int .u64 (h.qid.path : Int), .int .u32 (h.mode : Int), .int .u32 (h.atime : Int), .int .u32 (h.mtime : Int), .int .u64 (h.length : Int), .string h.name, .string h.uid, .string h.gid, .string h.muid] wx)
  case first =>
    have e0 : z0.cell? ⟨b6, 0, none⟩ = some (.int .u16 (h.typ : Int)) := (cell_of_row _ _ _ _ _ _ S0.out.row).trans rfl
    have f0 : z0.frozen? ⟨b6, 0, none⟩ = false := frozen_of_row _ _ _ _ _ S0.out.row
    by_cases h1 : a.typ = 65535
    · have hb : ((a.typ : Int) != 65535) = false := by rw [h1]; rfl
      go_wp2_with fail
      go_meet
      exact ⟨_, sel_same _ h1, S0.out⟩
    · have hb : ((a.typ : Int) != 65535) = true := by rw [bne_iff_ne]; omega
      go_wp2_with fail
      go_meet
      exact ⟨_, sel_other2 _ h1, S0.out.set ON.out 0 (.int .u16 (a.typ : Int))⟩
  obtain ⟨x0, HX, hS⟩ := hcut
  have X0 := Lib.hid HX
  have S1 := Lib.hid hS
  clear HX hS S0 a0 d0
  generalize wc = z1 at *
  have a1 : z1.cell? ⟨b0, 1, none⟩ = some (.int .u32 (a.dev : Int)) := (cell_of_row _ _ _ _ _ _ S1.out.wa).trans rfl
  have d1 : z1.cell? ⟨b5, 1, none⟩ = some (.int .u32 4294967295) := (cell_of_row _ _ _ _ _ _ S1.out.keep).trans rfl
  go_upto_if 21 with fail
  go_cut [] from 9 (fun wx => ∃ x : Nat, sel (askN a.dev 4294967295 h.dev) a.dev h.dev = x ∧ OvS w a h b0 (b0 + 1) (b0 + 2) b5 b6 #[.int .u16 (x0 : Int), .int .u32 (x : Int), .int .u8 (h.qid.kind : Int), .int .u32 (h.qid.vers : Int), .int .u64 (h.qid.path : Int), .int .u32 (h.mode : Int), .int .u32 (h.atime : Int), .int .u32 (h.mtime : Int), .int .u64 (h.length : Int), .string h.name, .string h.uid, .string h.gid, .string h.muid] wx)
  case first =>
    have e0 : z1.cell? ⟨b6, 1, none⟩ = some (.int .u32 (h.dev : Int)) := (cell_of_row _ _ _ _ _ _ S1.out.row).trans rfl
    have f0 : z1.frozen? ⟨b6, 1, none⟩ = false := frozen_of_row _ _ _ _ _ S1.out.row
    by_cases h1 : a.dev = 4294967295
    · have hb : ((a.dev : Int) != 4294967295) = false := by rw [h1]; rfl
      go_wp2_with fail
      go_meet
      exact ⟨_, sel_same _ h1, S1.out⟩
    · have hb : ((a.dev : Int) != 4294967295) = true := by rw [bne_iff_ne]; omega
      go_wp2_with fail
      go_meet
      exact ⟨_, sel_other2 _ h1, S1.out.set ON.out 1 (.int .u32 (a.dev : Int))⟩
  obtain ⟨x1, HX, hS⟩ := hcut
  have X1 := Lib.hid HX
  have S2 := Lib.hid hS
  clear HX hS S1 a1 d1
  generalize wc = z2 at *
  have a2 : z2.cell? ⟨b0, 2, none⟩ = some (.int .u8 (a.qid.kind : Int)) := (cell_of_row _ _ _ _ _ _ S2.out.wa).trans rfl
  have d2 : z2.cell? ⟨b5, 2, none⟩ = some (.int .u8 255) := (cell_of_row _ _ _ _ _ _ S2.out.keep).trans rfl
  go_upto_if 31 with fail
  go_cut [] from 9 (fun wx => ∃ x : Nat, sel (askN a.qid.kind 255 h.qid.kind) a.qid.kind h.qid.kind = x ∧ OvS w a h b0 (b0 + 1) (b0 + 2) b5 b6 #[.int .u16 (x0 : Int), .int .u32 (x1 : Int), .int .u8 (x : Int), .int .u32 (h.qid.vers : Int), .int .u64 (h.qid.path : Int), .int .u32 (h.mode : Int), .int .u32 (h.atime : Int), .int .u32 (h.mtime : Int), .int .u64 (h.length : Int), .string h.name, .string h.uid, .string h.gid, .string h.muid] wx)
  case first =>
    have e0 : z2.cell? ⟨b6, 2, none⟩ = some (.int .u8 (h.qid.kind : Int)) := (cell_of_row _ _ _ _ _ _ S2.out.row).trans rfl
    have f0 : z2.frozen? ⟨b6, 2, none⟩ = false := frozen_of_row _ _ _ _ _ S2.out.row
    by_cases h1 : a.qid.kind = 255
    · have hb : ((a.qid.kind : Int) != 255) = false := by rw [h1]; rfl
      go_wp2_with fail
      go_meet
      exact ⟨_, sel_same _ h1, S2.out⟩
    · have hb : ((a.qid.kind : Int) != 255) = true := by rw [bne_iff_ne]; omega
      go_wp2_with fail
      go_meet
      exact ⟨_, sel_other2 _ h1, S2.out.set ON.out 2 (.int .u8 (a.qid.kind : Int))⟩
  obtain ⟨x2, HX, hS⟩ := hcut
  have X2 := Lib.hid HX
  have S3 := Lib.hid hS
  clear HX hS S2 a2 d2
  generalize wc = z3 at *
  have a3 : z3.cell? ⟨b0, 3, none⟩ = some (.int .u32 (a.qid.vers : Int)) := (cell_of_row _ _ _ _ _ _ S3.out.wa).trans rfl
  have d3 : z3.cell? ⟨b5, 3, none⟩ = some (.int .u32 4294967295) := (cell_of_row _ _ _ _ _ _ S3.out.keep).trans rfl
  go_upto_if 43 with fail
  go_cut [] from 9 (fun wx => ∃ x : Nat, sel (askN a.qid.vers 4294967295 h.qid.vers) a.qid.vers h.qid.vers = x ∧ OvS w a h b0 (b0 + 1) (b0 + 2) b5 b6 #[.int .u16 (x0 : Int), .int .u32 (x1 : Int), .int .u8 (x2 : Int), .int .u32 (x : Int), .int .u64 (h.qid.path : Int), .int .u32 (h.mode : Int), .int .u32 (h.atime : Int), .int .u32 (h.mtime : Int), .int .u64 (h.length : Int), .string h.name, .string h.uid, .string h.gid, .string h.muid] wx)
  case first =>
    have e0 : z3.cell? ⟨b6, 3, none⟩ = some (.int .u32 (h.qid.vers : Int)) := (cell_of_row _ _ _ _ _ _ S3.out.row).trans rfl
    have f0 : z3.frozen? ⟨b6, 3, none⟩ = false := frozen_of_row _ _ _ _ _ S3.out.row
    by_cases h1 : a.qid.vers = 4294967295
    · have hb : ((a.qid.vers : Int) != 4294967295) = false := by rw [h1]; rfl
      go_wp2_with fail
      go_meet
      exact ⟨_, sel_same _ h1, S3.out⟩
    · have hb : ((a.qid.vers : Int) != 4294967295) = true := by rw [bne_iff_ne]; omega
      go_wp2_with fail
      go_meet
      exact ⟨_, sel_other2 _ h1, S3.out.set ON.out 3 (.int .u32 (a.qid.vers : Int))⟩
  obtain ⟨x3, HX, hS⟩ := hcut
  have X3 := Lib.hid HX
  have S4 := Lib.hid hS
  clear HX hS S3 a3 d3
  generalize wc = z4 at *
  have a4 : z4.cell? ⟨b0, 4, none⟩ = some (.int .u64 (a.qid.path : Int)) := (cell_of_row _ _ _ _ _ _ S4.out.wa).trans rfl
  have d4 : z4.cell? ⟨b5, 4, none⟩ = some (.int .u64 18446744073709551615) := (cell_of_row _ _ _ _ _ _ S4.out.keep).trans rfl
  go_upto_if 55 with fail
  go_cut [] from 9 (fun wx => ∃ x : Nat, sel (askN a.qid.path 18446744073709551615 h.qid.path) a.qid.path h.qid.path = x ∧ OvS w a h b0 (b0 + 1) (b0 + 2) b5 b6 #[.int .u16 (x0 : Int), .int .u32 (x1 : Int), .int .u8 (x2 : Int), .int .u32 (x3 : Int), .int .u64 (x : Int), .int .u32 (h.mode : Int), .int .u32 (h.atime : Int), .int .u32 (h.mtime : Int), .int .u64 (h.length : Int), .string h.name, .string h.uid, .string h.gid, .string h.muid] wx)
  case first =>
    have e0 : z4.cell? ⟨b6, 4, none⟩ = some (.int .u64 (h.qid.path : Int)) := (cell_of_row _ _ _ _ _ _ S4.out.row).trans rfl
    have f0 : z4.frozen? ⟨b6, 4, none⟩ = false := frozen_of_row _ _ _ _ _ S4.out.row
    by_cases h1 : a.qid.path = 18446744073709551615
    · have hb : ((a.qid.path : Int) != 18446744073709551615) = false := by rw [h1]; rfl
      go_wp2_with fail
      go_meet
      exact ⟨_, sel_same _ h1, S4.out⟩
    · have hb : ((a.qid.path : Int) != 18446744073709551615) = true := by rw [bne_iff_ne]; omega
      go_wp2_with fail
      go_meet
      exact ⟨_, sel_other2 _ h1, S4.out.set ON.out 4 (.int .u64 (a.qid.path : Int))⟩
  obtain ⟨x4, HX, hS⟩ := hcut
  have X4 := Lib.hid HX
  have S5 := Lib.hid hS
  clear HX hS S4 a4 d4
  generalize wc = z5 at *
  have a5 : z5.cell? ⟨b0, 5, none⟩ = some (.int .u32 (a.mode : Int)) := (cell_of_row _ _ _ _ _ _ S5.out.wa).trans rfl
  have d5 : z5.cell? ⟨b5, 5, none⟩ = some (.int .u32 4294967295) := (cell_of_row _ _ _ _ _ _ S5.out.keep).trans rfl
  go_upto_if 65 with fail
  go_cut [] from 9 (fun wx => ∃ x : Nat, sel (askN a.mode 4294967295 h.mode) a.mode h.mode = x ∧ OvS w a h b0 (b0 + 1) (b0 + 2) b5 b6 #[.int .u16 (x0 : Int), .int .u32 (x1 : Int), .int .u8 (x2 : Int), .int .u32 (x3 : Int), .int .u64 (x4 : Int), .int .u32 (x : Int), .int .u32 (h.atime : Int), .int .u32 (h.mtime : Int), .int .u64 (h.length : Int), .string h.name, .string h.uid, .string h.gid, .string h.muid] wx)
  case first =>
    have e0 : z5.cell? ⟨b6, 5, none⟩ = some (.int .u32 (h.mode : Int)) := (cell_of_row _ _ _ _ _ _ S5.out.row).trans rfl
    have f0 : z5.frozen? ⟨b6, 5, none⟩ = false := frozen_of_row _ _ _ _ _ S5.out.row
    by_cases h1 : a.mode = 4294967295
    · have hb : ((a.mode : Int) != 4294967295) = false := by rw [h1]; rfl
      go_wp2_with fail
      go_meet
      exact ⟨_, sel_same _ h1, S5.out⟩
    · have hb : ((a.mode : Int) != 4294967295) = true := by rw [bne_iff_ne]; omega
      go_wp2_with fail
      go_meet
      exact ⟨_, sel_other2 _ h1, S5.out.set ON.out 5 (.int .u32 (a.mode : Int))⟩
  obtain ⟨x5, HX, hS⟩ := hcut
  have X5 := Lib.hid HX
  have S6 := Lib.hid hS
  clear HX hS S5 a5 d5
  generalize wc = z6 at *
  have a6 : z6.cell? ⟨b0, 6, none⟩ = some (.int .u32 (a.atime : Int)) := (cell_of_row _ _ _ _ _ _ S6.out.wa).trans rfl
  have d6 : z6.cell? ⟨b5, 6, none⟩ = some (.int .u32 4294967295) := (cell_of_row _ _ _ _ _ _ S6.out.keep).trans rfl
  go_upto_if 73 with fail
  go_cut [] from 9 (fun wx => ∃ x : Nat, sel (askN a.atime 4294967295 h.atime) a.atime h.atime = x ∧ OvS w a h b0 (b0 + 1) (b0 + 2) b5 b6 #[.int .u16 (x0 : Int), .int .u32 (x1 : Int), .int .u8 (x2 : Int), .int .u32 (x3 : Int), .int .u64 (x4 : Int), .int .u32 (x5 : Int), .int .u32 (x : Int), .int .u32 (h.mtime : Int), .int .u64 (h.length : Int), .string h.name, .string h.uid, .string h.gid, .string h.muid] wx)
  case first =>
    have e0 : z6.cell? ⟨b6, 6, none⟩ = some (.int .u32 (h.atime : Int)) := (cell_of_row _ _ _ _ _ _ S6.out.row).trans rfl
    have f0 : z6.frozen? ⟨b6, 6, none⟩ = false := frozen_of_row _ _ _ _ _ S6.out.row
    by_cases h1 : a.atime = 4294967295
    · have hb : ((a.atime : Int) != 4294967295) = false := by rw [h1]; rfl
      go_wp2_with fail
      go_meet
      exact ⟨_, sel_same _ h1, S6.out⟩
    · have hb : ((a.atime : Int) != 4294967295) = true := by rw [bne_iff_ne]; omega
      go_wp2_with fail
      go_meet
      exact ⟨_, sel_other2 _ h1, S6.out.set ON.out 6 (.int .u32 (a.atime : Int))⟩
  obtain ⟨x6, HX, hS⟩ := hcut
  have X6 := Lib.hid HX
  have S7 := Lib.hid hS
  clear HX hS S6 a6 d6
  generalize wc = z7 at *
  have a7 : z7.cell? ⟨b0, 7, none⟩ = some (.int .u32 (a.mtime : Int)) := (cell_of_row _ _ _ _ _ _ S7.out.wa).trans rfl
  have d7 : z7.cell? ⟨b5, 7, none⟩ = some (.int .u32 4294967295) := (cell_of_row _ _ _ _ _ _ S7.out.keep).trans rfl
  go_upto_if 81 with fail
  go_cut [] from 9 (fun wx => ∃ x : Nat, sel (askN a.mtime 4294967295 h.mtime) a.mtime h.mtime = x ∧ OvS w a h b0 (b0 + 1) (b0 + 2) b5 b6 #[.int .u16 (x0 : Int), .int .u32 (x1 : Int), .int .u8 (x2 : Int), .int .u32 (x3 : Int), .int .u64 (x4 : Int), .int .u32 (x5 : Int), .int .u32 (x6 : Int), .int .u32 (x : Int), .int .u64 (h.length : Int), .string h.name, .string h.uid, .string h.gid, .string h.muid] wx)
  case first =>
    have e0 : z7.cell? ⟨b6, 7, none⟩ = some (.int .u32 (h.mtime : Int)) := (cell_of_row _ _ _ _ _ _ S7.out.row).trans rfl
    have f0 : z7.frozen? ⟨b6, 7, none⟩ = false := frozen_of_row _ _ _ _ _ S7.out.row
    by_cases h1 : a.mtime = 4294967295
    · have hb : ((a.mtime : Int) != 4294967295) = false := by rw [h1]; rfl
      go_wp2_with fail
      go_meet
      exact ⟨_, sel_same _ h1, S7.out⟩
    · have hb : ((a.mtime : Int) != 4294967295) = true := by rw [bne_iff_ne]; omega
      go_wp2_with fail
      go_meet
      exact ⟨_, sel_other2 _ h1, S7.out.set ON.out 7 (.int .u32 (a.mtime : Int))⟩
  obtain ⟨x7, HX, hS⟩ := hcut
  have X7 := Lib.hid HX
  have S8 := Lib.hid hS
  clear HX hS S7 a7 d7
  generalize wc = z8 at *
  have a8 : z8.cell? ⟨b0, 8, none⟩ = some (.int .u64 (a.length : Int)) := (cell_of_row _ _ _ _ _ _ S8.out.wa).trans rfl
  have d8 : z8.cell? ⟨b5, 8, none⟩ = some (.int .u64 18446744073709551615) := (cell_of_row _ _ _ _ _ _ S8.out.keep).trans rfl
  go_upto_if 89 with fail
  go_cut [] from 9 (fun wx => ∃ x : Nat, sel (askN a.length 18446744073709551615 h.length) a.length h.length = x ∧ OvS w a h b0 (b0 + 1) (b0 + 2) b5 b6 #[.int .u16 (x0 : Int), .int .u32 (x1 : Int), .int .u8 (x2 : Int), .int .u32 (x3 : Int), .int .u64 (x4 : Int), .int .u32 (x5 : Int), .int .u32 (x6 : Int), .int .u32 (x7 : Int), .int .u64 (x : Int), .string h.name, .string h.uid, .string h.gid, .string h.muid] wx)
  case first =>
    have e0 : z8.cell? ⟨b6, 8, none⟩ = some (.int .u64 (h.length : Int)) := (cell_of_row _ _ _ _ _ _ S8.out.row).trans rfl
    have f0 : z8.frozen? ⟨b6, 8, none⟩ = false := frozen_of_row _ _ _ _ _ S8.out.row
    by_cases h1 : a.length = 18446744073709551615
    · have hb : ((a.length : Int) != 18446744073709551615) = false := by rw [h1]; rfl
      go_wp2_with fail
      go_meet
      exact ⟨_, sel_same _ h1, S8.out⟩
    · have hb : ((a.length : Int) != 18446744073709551615) = true := by rw [bne_iff_ne]; omega
      go_wp2_with fail
      go_meet
      exact ⟨_, sel_other2 _ h1, S8.out.set ON.out 8 (.int .u64 (a.length : Int))⟩
  obtain ⟨x8, HX, hS⟩ := hcut
  have X8 := Lib.hid HX
  have S9 := Lib.hid hS
  clear HX hS S8 a8 d8
  generalize wc = z9 at *
  have a9 : z9.cell? ⟨b0, 9, none⟩ = some (.string a.name) := (cell_of_row _ _ _ _ _ _ S9.out.wa).trans rfl
  have d9 : z9.cell? ⟨b5, 9, none⟩ = some (.string ⟨#[]⟩) := (cell_of_row _ _ _ _ _ _ S9.out.keep).trans rfl
  go_upto_if 95 with fail
  go_cut [] from 9 (fun wx => ∃ x : ByteArray, sel (askT a.name ⟨#[]⟩ h.name) a.name h.name = x ∧ OvS w a h b0 (b0 + 1) (b0 + 2) b5 b6 #[.int .u16 (x0 : Int), .int .u32 (x1 : Int), .int .u8 (x2 : Int), .int .u32 (x3 : Int), .int .u64 (x4 : Int), .int .u32 (x5 : Int), .int .u32 (x6 : Int), .int .u32 (x7 : Int), .int .u64 (x8 : Int), .string x, .string h.uid, .string h.gid, .string h.muid] wx)
  case first =>
    have e0 : z9.cell? ⟨b6, 9, none⟩ = some (.string h.name) := (cell_of_row _ _ _ _ _ _ S9.out.row).trans rfl
    have f0 : z9.frozen? ⟨b6, 9, none⟩ = false := frozen_of_row _ _ _ _ _ S9.out.row
    by_cases h1 : a.name.toList.isEmpty = true
    · have hb : (!a.name.toList.isEmpty) = false := by rw [h1]; rfl
      rw [hb]
      go_wp2_with fail
      go_meet
      exact ⟨_, sel_empty _ h1, S9.out⟩
    · have h2 : a.name.toList.isEmpty = false := by simpa using h1
      have hb : (!a.name.toList.isEmpty) = true := by rw [h2]; rfl
      rw [hb]
      go_wp2_with fail
      go_meet
      exact ⟨_, sel_full _ h2, S9.out.set ON.out 9 (.string a.name)⟩
  obtain ⟨x9, HX, hS⟩ := hcut
  have X9 := Lib.hid HX
  have S10 := Lib.hid hS
  clear HX hS S9 a9 d9
  generalize wc = z10 at *
  have a10 : z10.cell? ⟨b0, 10, none⟩ = some (.string a.uid) := (cell_of_row _ _ _ _ _ _ S10.out.wa).trans rfl
  have d10 : z10.cell? ⟨b5, 10, none⟩ = some (.string ⟨#[]⟩) := (cell_of_row _ _ _ _ _ _ S10.out.keep).trans rfl
  go_upto_if 101 with fail
  go_cut [] from 9 (fun wx => ∃ x : ByteArray, sel (askT a.uid ⟨#[]⟩ h.uid) a.uid h.uid = x ∧ OvS w a h b0 (b0 + 1) (b0 + 2) b5 b6 #[.int .u16 (x0 : Int), .int .u32 (x1 : Int), .int .u8 (x2 : Int), .int .u32 (x3 : Int), .int .u64 (x4 : Int), .int .u32 (x5 : Int), .int .u32 (x6 : Int), .int .u32 (x7 : Int), .int .u64 (x8 : Int), .string x9, .string x, .string h.gid, .string h.muid] wx)
  case first =>
    have e0 : z10.cell? ⟨b6, 10, none⟩ = some (.string h.uid) := (cell_of_row _ _ _ _ _ _ S10.out.row).trans rfl
    have f0 : z10.frozen? ⟨b6, 10, none⟩ = false := frozen_of_row _ _ _ _ _ S10.out.row
    by_cases h1 : a.uid.toList.isEmpty = true
    · have hb : (!a.uid.toList.isEmpty) = false := by rw [h1]; rfl
      rw [hb]
      go_wp2_with fail
      go_meet
      exact ⟨_, sel_empty _ h1, S10.out⟩
    · have h2 : a.uid.toList.isEmpty = false := by simpa using h1
      have hb : (!a.uid.toList.isEmpty) = true := by rw [h2]; rfl
      rw [hb]
      go_wp2_with fail
      go_meet
      exact ⟨_, sel_full _ h2, S10.out.set ON.out 10 (.string a.uid)⟩
  obtain ⟨x10, HX, hS⟩ := hcut
  have X10 := Lib.hid HX
  have S11 := Lib.hid hS
  clear HX hS S10 a10 d10
  generalize wc = z11 at *
  have a11 : z11.cell? ⟨b0, 11, none⟩ = some (.string a.gid) := (cell_of_row _ _ _ _ _ _ S11.out.wa).trans rfl
  have d11 : z11.cell? ⟨b5, 11, none⟩ = some (.string ⟨#[]⟩) := (cell_of_row _ _ _ _ _ _ S11.out.keep).trans rfl
  go_upto_if 107 with fail
  go_cut [] from 9 (fun wx => ∃ x : ByteArray, sel (askT a.gid ⟨#[]⟩ h.gid) a.gid h.gid = x ∧ OvS w a h b0 (b0 + 1) (b0 + 2) b5 b6 #[.int .u16 (x0 : Int), .int .u32 (x1 : Int), .int .u8 (x2 : Int), .int .u32 (x3 : Int), .int .u64 (x4 : Int), .int .u32 (x5 : Int), .int .u32 (x6 : Int), .int .u32 (x7 : Int), .int .u64 (x8 : Int), .string x9, .string x10, .string x, .string h.muid] wx)
  case first =>
    have e0 : z11.cell? ⟨b6, 11, none⟩ = some (.string h.gid) := (cell_of_row _ _ _ _ _ _ S11.out.row).trans rfl
    have f0 : z11.frozen? ⟨b6, 11, none⟩ = false := frozen_of_row _ _ _ _ _ S11.out.row
    by_cases h1 : a.gid.toList.isEmpty = true
    · have hb : (!a.gid.toList.isEmpty) = false := by rw [h1]; rfl
      rw [hb]
      go_wp2_with fail
      go_meet
      exact ⟨_, sel_empty _ h1, S11.out⟩
    · have h2 : a.gid.toList.isEmpty = false := by simpa using h1
      have hb : (!a.gid.toList.isEmpty) = true := by rw [h2]; rfl
      rw [hb]
      go_wp2_with fail
      go_meet
      exact ⟨_, sel_full _ h2, S11.out.set ON.out 11 (.string a.gid)⟩
  obtain ⟨x11, HX, hS⟩ := hcut
  have X11 := Lib.hid HX
  have S12 := Lib.hid hS
  clear HX hS S11 a11 d11
  generalize wc = z12 at *
  have a12 : z12.cell? ⟨b0, 12, none⟩ = some (.string a.muid) := (cell_of_row _ _ _ _ _ _ S12.out.wa).trans rfl
  have d12 : z12.cell? ⟨b5, 12, none⟩ = some (.string ⟨#[]⟩) := (cell_of_row _ _ _ _ _ _ S12.out.keep).trans rfl
  go_upto_if 113 with fail
  go_cut [] from 9 (fun wx => ∃ x : ByteArray, sel (askT a.muid ⟨#[]⟩ h.muid) a.muid h.muid = x ∧ OvS w a h b0 (b0 + 1) (b0 + 2) b5 b6 #[.int .u16 (x0 : Int), .int .u32 (x1 : Int), .int .u8 (x2 : Int), .int .u32 (x3 : Int), .int .u64 (x4 : Int), .int .u32 (x5 : Int), .int .u32 (x6 : Int), .int .u32 (x7 : Int), .int .u64 (x8 : Int), .string x9, .string x10, .string x11, .string x] wx)
  case first =>
    have e0 : z12.cell? ⟨b6, 12, none⟩ = some (.string h.muid) := (cell_of_row _ _ _ _ _ _ S12.out.row).trans rfl
    have f0 : z12.frozen? ⟨b6, 12, none⟩ = false := frozen_of_row _ _ _ _ _ S12.out.row
    by_cases h1 : a.muid.toList.isEmpty = true
    · have hb : (!a.muid.toList.isEmpty) = false := by rw [h1]; rfl
      rw [hb]
      go_wp2_with fail
      go_meet
      exact ⟨_, sel_empty _ h1, S12.out⟩
    · have h2 : a.muid.toList.isEmpty = false := by simpa using h1
      have hb : (!a.muid.toList.isEmpty) = true := by rw [h2]; rfl
      rw [hb]
      go_wp2_with fail
      go_meet
      exact ⟨_, sel_full _ h2, S12.out.set ON.out 12 (.string a.muid)⟩
  obtain ⟨x12, HX, hS⟩ := hcut
  have X12 := Lib.hid HX
  have S13 := Lib.hid hS
  clear HX hS S12 a12 d12
  generalize wc = z13 at *
  have c0 : z13.cell? ⟨b6, 0, none⟩ = some (.int .u16 (x0 : Int)) := (cell_of_row _ _ _ _ _ _ S13.out.row).trans rfl
  have d0 : z13.cell? ⟨b0 + 2, 0, none⟩ = some (.int .u16 0) := (cell_of_row _ _ _ _ _ _ S13.out.res).trans rfl
  have f0 : z13.frozen? ⟨b0 + 2, 0, none⟩ = false := frozen_of_row _ _ _ _ _ S13.out.res
  have c1 : z13.cell? ⟨b6, 1, none⟩ = some (.int .u32 (x1 : Int)) := (cell_of_row _ _ _ _ _ _ S13.out.row).trans rfl
  have d1 : z13.cell? ⟨b0 + 2, 1, none⟩ = some (.int .u32 0) := (cell_of_row _ _ _ _ _ _ S13.out.res).trans rfl
  have f1 : z13.frozen? ⟨b0 + 2, 1, none⟩ = false := frozen_of_row _ _ _ _ _ S13.out.res
  have c2 : z13.cell? ⟨b6, 2, none⟩ = some (.int .u8 (x2 : Int)) := (cell_of_row _ _ _ _ _ _ S13.out.row).trans rfl
  have d2 : z13.cell? ⟨b0 + 2, 2, none⟩ = some (.int .u8 0) := (cell_of_row _ _ _ _ _ _ S13.out.res).trans rfl
  have f2 : z13.frozen? ⟨b0 + 2, 2, none⟩ = false := frozen_of_row _ _ _ _ _ S13.out.res
  have c3 : z13.cell? ⟨b6, 3, none⟩ = some (.int .u32 (x3 : Int)) := (cell_of_row _ _ _ _ _ _ S13.out.row).trans rfl
  have d3 : z13.cell? ⟨b0 + 2, 3, none⟩ = some (.int .u32 0) := (cell_of_row _ _ _ _ _ _ S13.out.res).trans rfl
  have f3 : z13.frozen? ⟨b0 + 2, 3, none⟩ = false := frozen_of_row _ _ _ _ _ S13.out.res
  have c4 : z13.cell? ⟨b6, 4, none⟩ = some (.int .u64 (x4 : Int)) := (cell_of_row _ _ _ _ _ _ S13.out.row).trans rfl
  have d4 : z13.cell? ⟨b0 + 2, 4, none⟩ = some (.int .u64 0) := (cell_of_row _ _ _ _ _ _ S13.out.res).trans rfl
  have f4 : z13.frozen? ⟨b0 + 2, 4, none⟩ = false := frozen_of_row _ _ _ _ _ S13.out.res
  have c5 : z13.cell? ⟨b6, 5, none⟩ = some (.int .u32 (x5 : Int)) := (cell_of_row _ _ _ _ _ _ S13.out.row).trans rfl
  have d5 : z13.cell? ⟨b0 + 2, 5, none⟩ = some (.int .u32 0) := (cell_of_row _ _ _ _ _ _ S13.out.res).trans rfl
  have f5 : z13.frozen? ⟨b0 + 2, 5, none⟩ = false := frozen_of_row _ _ _ _ _ S13.out.res
  have c6 : z13.cell? ⟨b6, 6, none⟩ = some (.int .u32 (x6 : Int)) := (cell_of_row _ _ _ _ _ _ S13.out.row).trans rfl
  have d6 : z13.cell? ⟨b0 + 2, 6, none⟩ = some (.int .u32 0) := (cell_of_row _ _ _ _ _ _ S13.out.res).trans rfl
  have f6 : z13.frozen? ⟨b0 + 2, 6, none⟩ = false := frozen_of_row _ _ _ _ _ S13.out.res
  have c7 : z13.cell? ⟨b6, 7, none⟩ = some (.int .u32 (x7 : Int)) := (cell_of_row _ _ _ _ _ _ S13.out.row).trans rfl
  have d7 : z13.cell? ⟨b0 + 2, 7, none⟩ = some (.int .u32 0) := (cell_of_row _ _ _ _ _ _ S13.out.res).trans rfl
  have f7 : z13.frozen? ⟨b0 + 2, 7, none⟩ = false := frozen_of_row _ _ _ _ _ S13.out.res
  have c8 : z13.cell? ⟨b6, 8, none⟩ = some (.int .u64 (x8 : Int)) := (cell_of_row _ _ _ _ _ _ S13.out.row).trans rfl
  have d8 : z13.cell? ⟨b0 + 2, 8, none⟩ = some (.int .u64 0) := (cell_of_row _ _ _ _ _ _ S13.out.res).trans rfl
  have f8 : z13.frozen? ⟨b0 + 2, 8, none⟩ = false := frozen_of_row _ _ _ _ _ S13.out.res
  have c9 : z13.cell? ⟨b6, 9, none⟩ = some (.string x9) := (cell_of_row _ _ _ _ _ _ S13.out.row).trans rfl
  have d9 : z13.cell? ⟨b0 + 2, 9, none⟩ = some (.string ⟨#[]⟩) := (cell_of_row _ _ _ _ _ _ S13.out.res).trans rfl
  have f9 : z13.frozen? ⟨b0 + 2, 9, none⟩ = false := frozen_of_row _ _ _ _ _ S13.out.res
  have c10 : z13.cell? ⟨b6, 10, none⟩ = some (.string x10) := (cell_of_row _ _ _ _ _ _ S13.out.row).trans rfl
  have d10 : z13.cell? ⟨b0 + 2, 10, none⟩ = some (.string ⟨#[]⟩) := (cell_of_row _ _ _ _ _ _ S13.out.res).trans rfl
  have f10 : z13.frozen? ⟨b0 + 2, 10, none⟩ = false := frozen_of_row _ _ _ _ _ S13.out.res
  have c11 : z13.cell? ⟨b6, 11, none⟩ = some (.string x11) := (cell_of_row _ _ _ _ _ _ S13.out.row).trans rfl
  have d11 : z13.cell? ⟨b0 + 2, 11, none⟩ = some (.string ⟨#[]⟩) := (cell_of_row _ _ _ _ _ _ S13.out.res).trans rfl
  have f11 : z13.frozen? ⟨b0 + 2, 11, none⟩ = false := frozen_of_row _ _ _ _ _ S13.out.res
  have c12 : z13.cell? ⟨b6, 12, none⟩ = some (.string x12) := (cell_of_row _ _ _ _ _ _ S13.out.row).trans rfl
  have d12 : z13.cell? ⟨b0 + 2, 12, none⟩ = some (.string ⟨#[]⟩) := (cell_of_row _ _ _ _ _ _ S13.out.res).trans rfl
  have f12 : z13.frozen? ⟨b0 + 2, 12, none⟩ = false := frozen_of_row _ _ _ _ _ S13.out.res
  go_wp2_with fail
  refine bodyPost_ret (v := .agg #[.int .u16 (x0 : Int), .int .u32 (x1 : Int), .int .u8 (x2 : Int), .int .u32 (x3 : Int), .int .u64 (x4 : Int), .int .u32 (x5 : Int), .int .u32 (x6 : Int), .int .u32 (x7 : Int), .int .u64 (x8 : Int), .string x9, .string x10, .string x11, .string x12]) (by simp [results, Tryz.results43, go_sem, d0, d1, d2, d3, d4, d5, d6, d7, d8, d9, d10, d11, d12]) rfl ⟨?_, ?_⟩
  · rw [← X0.out, ← X1.out, ← X2.out, ← X3.out, ← X4.out, ← X5.out, ← X6.out, ← X7.out, ← X8.out, ← X9.out, ← X10.out, ← X11.out, ← X12.out]
    rfl
  · exact (((((((((((((S13.out.mods.setCell (p := ⟨b0 + 2, 0, none⟩) (Or.inr (by have := HB0.out; simp; omega)) (.int .u16 (x0 : Int))).setCell (p := ⟨b0 + 2, 1, none⟩) (Or.inr (by have := HB0.out; simp; omega)) (.int .u32 (x1 : Int))).setCell (p := ⟨b0 + 2, 2, none⟩) (Or.inr (by have := HB0.out; simp; omega)) (.int .u8 (x2 : Int))).setCell (p := ⟨b0 + 2, 3, none⟩) (Or.inr (by have := HB0.out; simp; omega)) (.int .u32 (x3 : Int))).setCell (p := ⟨b0 + 2, 4, none⟩) (Or.inr (by have := HB0.out; simp; omega)) (.int .u64 (x4 : Int))).setCell (p := ⟨b0 + 2, 5, none⟩) (Or.inr (by have := HB0.out; simp; omega)) (.int .u32 (x5 : Int))).setCell (p := ⟨b0 + 2, 6, none⟩) (Or.inr (by have := HB0.out; simp; omega)) (.int .u32 (x6 : Int))).setCell (p := ⟨b0 + 2, 7, none⟩) (Or.inr (by have := HB0.out; simp; omega)) (.int .u32 (x7 : Int))).setCell (p := ⟨b0 + 2, 8, none⟩) (Or.inr (by have := HB0.out; simp; omega)) (.int .u64 (x8 : Int))).setCell (p := ⟨b0 + 2, 9, none⟩) (Or.inr (by have := HB0.out; simp; omega)) (.string x9)).setCell (p := ⟨b0 + 2, 10, none⟩) (Or.inr (by have := HB0.out; simp; omega)) (.string x10)).setCell (p := ⟨b0 + 2, 11, none⟩) (Or.inr (by have := HB0.out; simp; omega)) (.string x11)).setCell (p := ⟨b0 + 2, 12, none⟩) (Or.inr (by have := HB0.out; simp; omega)) (.string x12))
end Go.Proofs.YtnpokdbpmnkbjaaGreatDoor
