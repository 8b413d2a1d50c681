/- The walk of StatTouches. (Printed by wip/bin/gentc.py.) -/
import Derived.Test.YtedddekkbgaolaaDoorOv
import Derived.Test.YtedddekkbgaolaaDoorPt
import Derived.Test.YtedddekkbgaolaaDoorQr
namespace Go.Proofs.YtedddekkbgaolaaDoor
open Go.RowKit Me

theorem info90 : (Tryd.prog.info? 90).map (·.size) = some 13 := by kernel_rfl
def FieldOk (F : Nat) (a h n : StatP) (k : Nat) : Prop := ∃ b na nh nn ta th tn, F / 2 ^ k % 2 = (if b = true then 1 else 0) ∧ (partsN a)[k]? = some na ∧ (partsN h)[k]? = some nh ∧ (partsN n)[k]? = some nn ∧
  (partsT a)[k]? = some ta ∧ (partsT h)[k]? = some th ∧ (partsT n)[k]? = some tn ∧ PartOk b na nh nn ta th tn
theorem shr_bit (F k : Nat) (b : Bool) (h : F / 2 ^ k % 2 = if b = true then 1 else 0) : (((F : Int) / 2 ^ k).tmod 2 == 1) = b := by
  have e : (F : Int) / 2 ^ k = ((F / 2 ^ k : Nat) : Int) := by simp
  rw [e, Int.tmod_eq_emod_of_nonneg (Int.natCast_nonneg (F / 2 ^ k))]
  have e2 : ((F / 2 ^ k : Nat) : Int) % 2 = ((F / 2 ^ k % 2 : Nat) : Int) := by simp
  rw [e2, h]
  cases b <;> rfl
def RelT (w1 : World) (i : Value) (wr : World) : Prop := ∃ k m : Nat, k ≤ 13 ∧ i = .int .i64 k ∧ w1.drewN m = wr
set_option maxRecDepth 100000 in
set_option maxHeartbeats 2000000 in
theorem touches_k {w : World} (hT : Lib.Utf8Tabs 0 1 w) (kp a h n : StatP) (tch : StatP → StatP → Nat) (ov : StatP → StatP → StatP) (F : Nat) (ha : a.Fits) (hh : h.Fits) (hn : n.Fits) (hza : a.size ≤ 600000000000000) (hzh : h.size ≤ 600000000000000)
    (hK : ∀ w, Calls Tryd.prog 65 #[] w fun e w' => e = .returned (.agg (statV kp)) ∧ Mods [] w w')
    (hTo : ∀ a h w, Calls Tryd.prog 66 #[.agg (statV a), .agg (statV h)] w fun e w' => e = .returned (.int .u16 (tch a h : Int)) ∧ Mods [] w w')
    (hOv : ∀ a h w, Calls Tryd.prog 67 #[.agg (statV a), .agg (statV h)] w fun e w' => e = .returned (.agg (statV (ov a h))) ∧ Mods [] w w')
    (x1 : tch kp h = 0) (x2 : ov kp h = h) (x3 : tch h h = 0) (x4 : tch a n = 0) (x5 : ov a n = n) (x0 : ov a h = n) (xF : tch a h = F) (x6 : F < 8192) (x7 : ∀ k, k < 13 → FieldOk F a h n k) :
    Calls Tryd.prog 15 #[.agg (statV a), .agg (statV h)] w fun e w' => e = .returned (.bool true) ∧ Mods [] w w' := by
  have X1 := Lib.hid x1
  have X2 := Lib.hid x2
  have X3 := Lib.hid x3
  have X4 := Lib.hid x4
  have X5 := Lib.hid x5
  have X0 := Lib.hid x0
  have XF := Lib.hid xF
  have X6 := Lib.hid x6
  have X7 := Lib.hid x7
  have HK := Lib.hid hK
  have HTO := Lib.hid hTo
  have HOV := Lib.hid hOv
  have HA := Lib.hid ha
  have HH := Lib.hid hh
  have HN := Lib.hid hn
  clear x0 x1 x2 x3 x4 x5 xF x6 x7 hK hTo hOv ha hh hn
  have M0 := Lib.hid (((Mods.refl [] w).alloc (.cells (statV a) 90)).alloc (.cells (statV h) 90))
  have A0 := Lib.hid ((Go.heap_alloc_old (w.alloc (.cells (statV a) 90)) (.cells (statV h) 90) (by simp)).trans (heap_alloc_new w (.cells (statV a) 90)))
  have hb := heap_alloc_new (w.alloc (.cells (statV a) 90)) (.cells (statV h) 90)
  rw [World.size_alloc] at hb
  have B0 := Lib.hid hb
  have T0 := Lib.hid (tabs_mods M0.out hT)
  clear hb hT
  go_enter Tryd.func15, Tryd.ntmps15
  go_wp2_with fail
  refine (awake_any _ T0.out).mono ?_; rintro e w1 ⟨rfl, hm⟩
  have M1 := Lib.hid (M0.out.trans hm (by simp))
  have A1 := Lib.hid (hm.heap A0.out (by simp))
  have B1 := Lib.hid (hm.heap B0.out (by simp))
  clear hm A0 B0 M0 T0
  generalize w.heap.size + 1 = bh at *
  generalize w.heap.size = ba at *
  go_wp2_with fail
  refine wp_region_quiet (C := InC w1) (by kernel_rfl) (by kernel_rfl) (InC.drew w1) ?_
  dsimp only [List.toList_toArray]
  refine wpQuiet_load_row rfl 90 _ rfl ba rfl 90 (statV a) (0, 0) _ (fun w' hw' => hw'.heap A1.out (by simp)) Tryd.underlying90 rfl info90 ?_
  refine wpQuiet_step (fun K hK => ?_)
  go_simp
  refine ⟨_, fun w' hw' => (weight_any a w' hza).mono fun _ _ hh => ⟨hh.1, Mods.trans hw' hh.2 (by simp)⟩, hK _ ?_⟩
  clear hK K
  refine wpQuiet_load_row rfl 90 _ rfl bh rfl 90 (statV h) (0, 0) _ (fun w' hw' => hw'.heap B1.out (by simp)) Tryd.underlying90 rfl info90 ?_
  refine wpQuiet_step (fun K hK => ?_)
  go_simp
  refine ⟨_, fun w' hw' => (weight_any h w' hzh).mono fun _ _ hh => ⟨hh.1, Mods.trans hw' hh.2 (by simp)⟩, hK _ ?_⟩
  clear hK K
  have hs : IntKind.i64.wrap ((a.size : Int) + (h.size : Int)) = (a.size : Int) + (h.size : Int) := IntWalk.i64_in _ (by omega)
  refine wpQuiet_step (fun K hK => ?_)
  go_simp
  refine ⟨_, fun _ _ => rfl, hK _ ?_⟩
  clear hK K
  refine wpQuiet_step (fun K hK => ?_)
  go_simp
  refine ⟨_, fun _ _ => rfl, hK _ ?_⟩
  clear hK K hs
  refine wpQuiet_nil ?_
  intro w2 hw2
  have M2 := Lib.hid (M1.out.trans hw2 (by simp))
  have A2 := Lib.hid (hw2.heap A1.out (by simp))
  have B2 := Lib.hid (hw2.heap B1.out (by simp))
  clear hw2 A1 B1 M1
  by_cases hbig : 268435456 < a.size + h.size
  · have hb : decide ((268435456 : Int) < (a.size : Int) + (h.size : Int)) = true := by simp; omega
    go_wp2_with fail
    go_ret
    exact ⟨rfl, M2.out⟩
  have hb : ¬ (268435456 : Int) < (a.size : Int) + (h.size : Int) := by omega
  clear hbig
  go_wp2_with fail
  refine (HK.out _).mono ?_; rintro e w3 ⟨rfl, hm⟩
  have m3 := hm.alloc (.cells (statV kp) 90)
  have M3 : Hid (Mods [] w (w3.alloc (.cells #[.int .u16 (kp.typ : Int), .int .u32 (kp.dev : Int), .int .u8 (kp.qid.kind : Int), .int .u32 (kp.qid.vers : Int), .int .u64 (kp.qid.path : Int), .int .u32 (kp.mode : Int), .int .u32 (kp.atime : Int), .int .u32 (kp.mtime : Int), .int .u64 (kp.length : Int), .string kp.name, .string kp.uid, .string kp.gid, .string kp.muid] 90))) := Lib.hid (M2.out.trans m3 (by simp))
  have A3 : Hid ((w3.alloc (.cells #[.int .u16 (kp.typ : Int), .int .u32 (kp.dev : Int), .int .u8 (kp.qid.kind : Int), .int .u32 (kp.qid.vers : Int), .int .u64 (kp.qid.path : Int), .int .u32 (kp.mode : Int), .int .u32 (kp.atime : Int), .int .u32 (kp.mtime : Int), .int .u64 (kp.length : Int), .string kp.name, .string kp.uid, .string kp.gid, .string kp.muid] 90)).heap[ba]? = some (.cells (statV a) 90 (0, 0))) := Lib.hid (m3.heap A2.out (by simp))
  have B3 : Hid ((w3.alloc (.cells #[.int .u16 (kp.typ : Int), .int .u32 (kp.dev : Int), .int .u8 (kp.qid.kind : Int), .int .u32 (kp.qid.vers : Int), .int .u64 (kp.qid.path : Int), .int .u32 (kp.mode : Int), .int .u32 (kp.atime : Int), .int .u32 (kp.mtime : Int), .int .u64 (kp.length : Int), .string kp.name, .string kp.uid, .string kp.gid, .string kp.muid] 90)).heap[bh]? = some (.cells (statV h) 90 (0, 0))) := Lib.hid (m3.heap B2.out (by simp))
  have K3 : Hid ((w3.alloc (.cells #[.int .u16 (kp.typ : Int), .int .u32 (kp.dev : Int), .int .u8 (kp.qid.kind : Int), .int .u32 (kp.qid.vers : Int), .int .u64 (kp.qid.path : Int), .int .u32 (kp.mode : Int), .int .u32 (kp.atime : Int), .int .u32 (kp.mtime : Int), .int .u64 (kp.length : Int), .string kp.name, .string kp.uid, .string kp.gid, .string kp.muid] 90)).heap[w3.heap.size]? = some (.cells (statV kp) 90 (0, 0))) := Lib.hid (heap_alloc_new w3 (.cells (statV kp) 90))
  clear hm m3 A2 B2 M2 hb
  unfold statV
  go_wp2_with (first | (refine wpList_load_row rfl 90 _ rfl w3.heap.size rfl 90 (statV kp) (0, 0) _ K3.out Tryd.underlying90 rfl info90 ?_) | (refine wpList_load_row rfl 90 _ rfl bh rfl 90 (statV h) (0, 0) _ B3.out Tryd.underlying90 rfl info90 ?_))
  generalize w3.heap.size = bk at *
  refine (HTO.out kp h _).mono ?_; rintro e w4 ⟨rfl, hm⟩
  rw [X1.out]
  have M4 := Lib.hid (M3.out.trans hm (by simp))
  have A4 := Lib.hid (hm.heap A3.out (by simp))
  have B4 := Lib.hid (hm.heap B3.out (by simp))
  have K4 := Lib.hid (hm.heap K3.out (by simp))
  clear hm M3 A3 B3 K3
  go_wp2_with (first | (refine wpList_load_row rfl 90 _ rfl bk rfl 90 (statV kp) (0, 0) _ K4.out Tryd.underlying90 rfl info90 ?_) | (refine wpList_load_row rfl 90 _ rfl bh rfl 90 (statV h) (0, 0) _ B4.out Tryd.underlying90 rfl info90 ?_))
  refine (HOV.out kp h _).mono ?_; rintro e w5 ⟨rfl, hm⟩
  rw [X2.out]
  have m5 := hm.alloc (.cells (statV h) 90)
  have M5 : Hid (Mods [] w (w5.alloc (.cells #[.int .u16 (h.typ : Int), .int .u32 (h.dev : Int), .int .u8 (h.qid.kind : Int), .int .u32 (h.qid.vers : Int), .int .u64 (h.qid.path : Int), .int .u32 (h.mode : Int), .int .u32 (h.atime : Int), .int .u32 (h.mtime : Int), .int .u64 (h.length : Int), .string h.name, .string h.uid, .string h.gid, .string h.muid] 90))) := Lib.hid (M4.out.trans m5 (by simp))
  have A5 : Hid ((w5.alloc (.cells #[.int .u16 (h.typ : Int), .int .u32 (h.dev : Int), .int .u8 (h.qid.kind : Int), .int .u32 (h.qid.vers : Int), .int .u64 (h.qid.path : Int), .int .u32 (h.mode : Int), .int .u32 (h.atime : Int), .int .u32 (h.mtime : Int), .int .u64 (h.length : Int), .string h.name, .string h.uid, .string h.gid, .string h.muid] 90)).heap[ba]? = some (.cells (statV a) 90 (0, 0))) := Lib.hid (m5.heap A4.out (by simp))
  have B5 : Hid ((w5.alloc (.cells #[.int .u16 (h.typ : Int), .int .u32 (h.dev : Int), .int .u8 (h.qid.kind : Int), .int .u32 (h.qid.vers : Int), .int .u64 (h.qid.path : Int), .int .u32 (h.mode : Int), .int .u32 (h.atime : Int), .int .u32 (h.mtime : Int), .int .u64 (h.length : Int), .string h.name, .string h.uid, .string h.gid, .string h.muid] 90)).heap[bh]? = some (.cells (statV h) 90 (0, 0))) := Lib.hid (m5.heap B4.out (by simp))
  have O5 : Hid ((w5.alloc (.cells #[.int .u16 (h.typ : Int), .int .u32 (h.dev : Int), .int .u8 (h.qid.kind : Int), .int .u32 (h.qid.vers : Int), .int .u64 (h.qid.path : Int), .int .u32 (h.mode : Int), .int .u32 (h.atime : Int), .int .u32 (h.mtime : Int), .int .u64 (h.length : Int), .string h.name, .string h.uid, .string h.gid, .string h.muid] 90)).heap[w5.heap.size]? = some (.cells (statV h) 90 (0, 0))) := Lib.hid (heap_alloc_new w5 (.cells (statV h) 90))
  clear hm m5 M4 A4 B4 K4
  unfold statV
  go_wp2_with (first | (refine wpList_load_row rfl 90 _ rfl bh rfl 90 (statV h) (0, 0) _ B5.out Tryd.underlying90 rfl info90 ?_))
  refine (HTO.out h h _).mono ?_; rintro e w6 ⟨rfl, hm⟩
  rw [X3.out]
  generalize w5.heap.size = bo at *
  have M6 := Lib.hid (M5.out.trans hm (by simp))
  have A6 := Lib.hid (hm.heap A5.out (by simp))
  have B6 := Lib.hid (hm.heap B5.out (by simp))
  have O6 := Lib.hid (hm.heap O5.out (by simp))
  clear hm M5 A5 B5 O5
  have c0 : (w6).cell? ⟨bo, 0, none⟩ = some (.int .u16 (h.typ : Int)) := (cell_of_row _ _ _ _ _ _ O6.out).trans rfl
  have c1 : (w6).cell? ⟨bo, 1, none⟩ = some (.int .u32 (h.dev : Int)) := (cell_of_row _ _ _ _ _ _ O6.out).trans rfl
  have c2 : (w6).cell? ⟨bo, 2, none⟩ = some (.int .u8 (h.qid.kind : Int)) := (cell_of_row _ _ _ _ _ _ O6.out).trans rfl
  have c3 : (w6).cell? ⟨bo, 3, none⟩ = some (.int .u32 (h.qid.vers : Int)) := (cell_of_row _ _ _ _ _ _ O6.out).trans rfl
  have c4 : (w6).cell? ⟨bo, 4, none⟩ = some (.int .u64 (h.qid.path : Int)) := (cell_of_row _ _ _ _ _ _ O6.out).trans rfl
  have c5 : (w6).cell? ⟨bo, 5, none⟩ = some (.int .u32 (h.mode : Int)) := (cell_of_row _ _ _ _ _ _ O6.out).trans rfl
  have c6 : (w6).cell? ⟨bo, 6, none⟩ = some (.int .u32 (h.atime : Int)) := (cell_of_row _ _ _ _ _ _ O6.out).trans rfl
  have c7 : (w6).cell? ⟨bo, 7, none⟩ = some (.int .u32 (h.mtime : Int)) := (cell_of_row _ _ _ _ _ _ O6.out).trans rfl
  have c8 : (w6).cell? ⟨bo, 8, none⟩ = some (.int .u64 (h.length : Int)) := (cell_of_row _ _ _ _ _ _ O6.out).trans rfl
  have c9 : (w6).cell? ⟨bo, 9, none⟩ = some (.string h.name) := (cell_of_row _ _ _ _ _ _ O6.out).trans rfl
  have c10 : (w6).cell? ⟨bo, 10, none⟩ = some (.string h.uid) := (cell_of_row _ _ _ _ _ _ O6.out).trans rfl
  have c11 : (w6).cell? ⟨bo, 11, none⟩ = some (.string h.gid) := (cell_of_row _ _ _ _ _ _ O6.out).trans rfl
  have c12 : (w6).cell? ⟨bo, 12, none⟩ = some (.string h.muid) := (cell_of_row _ _ _ _ _ _ O6.out).trans rfl
  have d0 : (w6).cell? ⟨bh, 0, none⟩ = some (.int .u16 (h.typ : Int)) := (cell_of_row _ _ _ _ _ _ B6.out).trans rfl
  have d1 : (w6).cell? ⟨bh, 1, none⟩ = some (.int .u32 (h.dev : Int)) := (cell_of_row _ _ _ _ _ _ B6.out).trans rfl
  have d2 : (w6).cell? ⟨bh, 2, none⟩ = some (.int .u8 (h.qid.kind : Int)) := (cell_of_row _ _ _ _ _ _ B6.out).trans rfl
  have d3 : (w6).cell? ⟨bh, 3, none⟩ = some (.int .u32 (h.qid.vers : Int)) := (cell_of_row _ _ _ _ _ _ B6.out).trans rfl
  have d4 : (w6).cell? ⟨bh, 4, none⟩ = some (.int .u64 (h.qid.path : Int)) := (cell_of_row _ _ _ _ _ _ B6.out).trans rfl
  have d5 : (w6).cell? ⟨bh, 5, none⟩ = some (.int .u32 (h.mode : Int)) := (cell_of_row _ _ _ _ _ _ B6.out).trans rfl
  have d6 : (w6).cell? ⟨bh, 6, none⟩ = some (.int .u32 (h.atime : Int)) := (cell_of_row _ _ _ _ _ _ B6.out).trans rfl
  have d7 : (w6).cell? ⟨bh, 7, none⟩ = some (.int .u32 (h.mtime : Int)) := (cell_of_row _ _ _ _ _ _ B6.out).trans rfl
  have d8 : (w6).cell? ⟨bh, 8, none⟩ = some (.int .u64 (h.length : Int)) := (cell_of_row _ _ _ _ _ _ B6.out).trans rfl
  have d9 : (w6).cell? ⟨bh, 9, none⟩ = some (.string h.name) := (cell_of_row _ _ _ _ _ _ B6.out).trans rfl
  have d10 : (w6).cell? ⟨bh, 10, none⟩ = some (.string h.uid) := (cell_of_row _ _ _ _ _ _ B6.out).trans rfl
  have d11 : (w6).cell? ⟨bh, 11, none⟩ = some (.string h.gid) := (cell_of_row _ _ _ _ _ _ B6.out).trans rfl
  have d12 : (w6).cell? ⟨bh, 12, none⟩ = some (.string h.muid) := (cell_of_row _ _ _ _ _ _ B6.out).trans rfl
  go_wp2_with (first | (refine wpList_load_row rfl 90 _ rfl ba rfl 90 (statV a) (0, 0) _ A6.out Tryd.underlying90 rfl info90 ?_))
  refine (HTO.out a h _).mono ?_; rintro e w7 ⟨rfl, hm⟩
  rw [XF.out]
  have M7 := Lib.hid (M6.out.trans hm (by simp))
  have A7 := Lib.hid (hm.heap A6.out (by simp))
  have B7 := Lib.hid (hm.heap B6.out (by simp))
  clear hm M6 A6 B6 O6 c0 c1 c2 c3 c4 c5 c6 c7 c8 c9 c10 c11 c12 d0 d1 d2 d3 d4 d5 d6 d7 d8 d9 d10 d11 d12
  go_wp2_with (first | (refine wpList_load_row rfl 90 _ rfl ba rfl 90 (statV a) (0, 0) _ A7.out Tryd.underlying90 rfl info90 ?_) | (refine wpList_load_row rfl 90 _ rfl bh rfl 90 (statV h) (0, 0) _ B7.out Tryd.underlying90 rfl info90 ?_))
  refine (HOV.out a h _).mono ?_; rintro e w8 ⟨rfl, hm⟩
  rw [X0.out]
  have m8 := hm.alloc (.cells (statV n) 90)
  have M8 : Hid (Mods [] w (w8.alloc (.cells #[.int .u16 (n.typ : Int), .int .u32 (n.dev : Int), .int .u8 (n.qid.kind : Int), .int .u32 (n.qid.vers : Int), .int .u64 (n.qid.path : Int), .int .u32 (n.mode : Int), .int .u32 (n.atime : Int), .int .u32 (n.mtime : Int), .int .u64 (n.length : Int), .string n.name, .string n.uid, .string n.gid, .string n.muid] 90))) := Lib.hid (M7.out.trans m8 (by simp))
  have A8 : Hid ((w8.alloc (.cells #[.int .u16 (n.typ : Int), .int .u32 (n.dev : Int), .int .u8 (n.qid.kind : Int), .int .u32 (n.qid.vers : Int), .int .u64 (n.qid.path : Int), .int .u32 (n.mode : Int), .int .u32 (n.atime : Int), .int .u32 (n.mtime : Int), .int .u64 (n.length : Int), .string n.name, .string n.uid, .string n.gid, .string n.muid] 90)).heap[ba]? = some (.cells (statV a) 90 (0, 0))) := Lib.hid (m8.heap A7.out (by simp))
  have B8 : Hid ((w8.alloc (.cells #[.int .u16 (n.typ : Int), .int .u32 (n.dev : Int), .int .u8 (n.qid.kind : Int), .int .u32 (n.qid.vers : Int), .int .u64 (n.qid.path : Int), .int .u32 (n.mode : Int), .int .u32 (n.atime : Int), .int .u32 (n.mtime : Int), .int .u64 (n.length : Int), .string n.name, .string n.uid, .string n.gid, .string n.muid] 90)).heap[bh]? = some (.cells (statV h) 90 (0, 0))) := Lib.hid (m8.heap B7.out (by simp))
  have N8 : Hid ((w8.alloc (.cells #[.int .u16 (n.typ : Int), .int .u32 (n.dev : Int), .int .u8 (n.qid.kind : Int), .int .u32 (n.qid.vers : Int), .int .u64 (n.qid.path : Int), .int .u32 (n.mode : Int), .int .u32 (n.atime : Int), .int .u32 (n.mtime : Int), .int .u64 (n.length : Int), .string n.name, .string n.uid, .string n.gid, .string n.muid] 90)).heap[w8.heap.size]? = some (.cells (statV n) 90 (0, 0))) := Lib.hid (heap_alloc_new w8 (.cells (statV n) 90))
  clear hm m8 M7 A7 B7
  unfold statV
  go_wp2_with (first | (refine wpList_load_row rfl 90 _ rfl ba rfl 90 (statV a) (0, 0) _ A8.out Tryd.underlying90 rfl info90 ?_) | (refine wpList_load_row rfl 90 _ rfl w8.heap.size rfl 90 (statV n) (0, 0) _ N8.out Tryd.underlying90 rfl info90 ?_))
  generalize w8.heap.size = bn at *
  refine (HTO.out a n _).mono ?_; rintro e w9 ⟨rfl, hm⟩
  rw [X4.out]
  have M9 := Lib.hid (M8.out.trans hm (by simp))
  have A9 := Lib.hid (hm.heap A8.out (by simp))
  have B9 := Lib.hid (hm.heap B8.out (by simp))
  have N9 := Lib.hid (hm.heap N8.out (by simp))
  clear hm M8 A8 B8 N8
  go_wp2_with (first | (refine wpList_load_row rfl 90 _ rfl ba rfl 90 (statV a) (0, 0) _ A9.out Tryd.underlying90 rfl info90 ?_) | (refine wpList_load_row rfl 90 _ rfl bn rfl 90 (statV n) (0, 0) _ N9.out Tryd.underlying90 rfl info90 ?_))
  refine (HOV.out a n _).mono ?_; rintro e w10 ⟨rfl, hm⟩
  rw [X5.out]
  have m10 := hm.alloc (.cells (statV n) 90)
  have M10 : Hid (Mods [] w (w10.alloc (.cells #[.int .u16 (n.typ : Int), .int .u32 (n.dev : Int), .int .u8 (n.qid.kind : Int), .int .u32 (n.qid.vers : Int), .int .u64 (n.qid.path : Int), .int .u32 (n.mode : Int), .int .u32 (n.atime : Int), .int .u32 (n.mtime : Int), .int .u64 (n.length : Int), .string n.name, .string n.uid, .string n.gid, .string n.muid] 90))) := Lib.hid (M9.out.trans m10 (by simp))
  have A10 : Hid ((w10.alloc (.cells #[.int .u16 (n.typ : Int), .int .u32 (n.dev : Int), .int .u8 (n.qid.kind : Int), .int .u32 (n.qid.vers : Int), .int .u64 (n.qid.path : Int), .int .u32 (n.mode : Int), .int .u32 (n.atime : Int), .int .u32 (n.mtime : Int), .int .u64 (n.length : Int), .string n.name, .string n.uid, .string n.gid, .string n.muid] 90)).heap[ba]? = some (.cells (statV a) 90 (0, 0))) := Lib.hid (m10.heap A9.out (by simp))
  have B10 : Hid ((w10.alloc (.cells #[.int .u16 (n.typ : Int), .int .u32 (n.dev : Int), .int .u8 (n.qid.kind : Int), .int .u32 (n.qid.vers : Int), .int .u64 (n.qid.path : Int), .int .u32 (n.mode : Int), .int .u32 (n.atime : Int), .int .u32 (n.mtime : Int), .int .u64 (n.length : Int), .string n.name, .string n.uid, .string n.gid, .string n.muid] 90)).heap[bh]? = some (.cells (statV h) 90 (0, 0))) := Lib.hid (m10.heap B9.out (by simp))
  have N10 : Hid ((w10.alloc (.cells #[.int .u16 (n.typ : Int), .int .u32 (n.dev : Int), .int .u8 (n.qid.kind : Int), .int .u32 (n.qid.vers : Int), .int .u64 (n.qid.path : Int), .int .u32 (n.mode : Int), .int .u32 (n.atime : Int), .int .u32 (n.mtime : Int), .int .u64 (n.length : Int), .string n.name, .string n.uid, .string n.gid, .string n.muid] 90)).heap[bn]? = some (.cells (statV n) 90 (0, 0))) := Lib.hid (m10.heap N9.out (by simp))
  clear hm m10 M9 A9 B9 N9
  have c0 : (w10.alloc (.cells #[.int .u16 (n.typ : Int), .int .u32 (n.dev : Int), .int .u8 (n.qid.kind : Int), .int .u32 (n.qid.vers : Int), .int .u64 (n.qid.path : Int), .int .u32 (n.mode : Int), .int .u32 (n.atime : Int), .int .u32 (n.mtime : Int), .int .u64 (n.length : Int), .string n.name, .string n.uid, .string n.gid, .string n.muid] 90)).cell? ⟨bn, 0, none⟩ = some (.int .u16 (n.typ : Int)) := (cell_of_row _ _ _ _ _ _ N10.out).trans rfl
  have c1 : (w10.alloc (.cells #[.int .u16 (n.typ : Int), .int .u32 (n.dev : Int), .int .u8 (n.qid.kind : Int), .int .u32 (n.qid.vers : Int), .int .u64 (n.qid.path : Int), .int .u32 (n.mode : Int), .int .u32 (n.atime : Int), .int .u32 (n.mtime : Int), .int .u64 (n.length : Int), .string n.name, .string n.uid, .string n.gid, .string n.muid] 90)).cell? ⟨bn, 1, none⟩ = some (.int .u32 (n.dev : Int)) := (cell_of_row _ _ _ _ _ _ N10.out).trans rfl
  have c2 : (w10.alloc (.cells #[.int .u16 (n.typ : Int), .int .u32 (n.dev : Int), .int .u8 (n.qid.kind : Int), .int .u32 (n.qid.vers : Int), .int .u64 (n.qid.path : Int), .int .u32 (n.mode : Int), .int .u32 (n.atime : Int), .int .u32 (n.mtime : Int), .int .u64 (n.length : Int), .string n.name, .string n.uid, .string n.gid, .string n.muid] 90)).cell? ⟨bn, 2, none⟩ = some (.int .u8 (n.qid.kind : Int)) := (cell_of_row _ _ _ _ _ _ N10.out).trans rfl
  have c3 : (w10.alloc (.cells #[.int .u16 (n.typ : Int), .int .u32 (n.dev : Int), .int .u8 (n.qid.kind : Int), .int .u32 (n.qid.vers : Int), .int .u64 (n.qid.path : Int), .int .u32 (n.mode : Int), .int .u32 (n.atime : Int), .int .u32 (n.mtime : Int), .int .u64 (n.length : Int), .string n.name, .string n.uid, .string n.gid, .string n.muid] 90)).cell? ⟨bn, 3, none⟩ = some (.int .u32 (n.qid.vers : Int)) := (cell_of_row _ _ _ _ _ _ N10.out).trans rfl
  have c4 : (w10.alloc (.cells #[.int .u16 (n.typ : Int), .int .u32 (n.dev : Int), .int .u8 (n.qid.kind : Int), .int .u32 (n.qid.vers : Int), .int .u64 (n.qid.path : Int), .int .u32 (n.mode : Int), .int .u32 (n.atime : Int), .int .u32 (n.mtime : Int), .int .u64 (n.length : Int), .string n.name, .string n.uid, .string n.gid, .string n.muid] 90)).cell? ⟨bn, 4, none⟩ = some (.int .u64 (n.qid.path : Int)) := (cell_of_row _ _ _ _ _ _ N10.out).trans rfl
  have c5 : (w10.alloc (.cells #[.int .u16 (n.typ : Int), .int .u32 (n.dev : Int), .int .u8 (n.qid.kind : Int), .int .u32 (n.qid.vers : Int), .int .u64 (n.qid.path : Int), .int .u32 (n.mode : Int), .int .u32 (n.atime : Int), .int .u32 (n.mtime : Int), .int .u64 (n.length : Int), .string n.name, .string n.uid, .string n.gid, .string n.muid] 90)).cell? ⟨bn, 5, none⟩ = some (.int .u32 (n.mode : Int)) := (cell_of_row _ _ _ _ _ _ N10.out).trans rfl
  have c6 : (w10.alloc (.cells #[.int .u16 (n.typ : Int), .int .u32 (n.dev : Int), .int .u8 (n.qid.kind : Int), .int .u32 (n.qid.vers : Int), .int .u64 (n.qid.path : Int), .int .u32 (n.mode : Int), .int .u32 (n.atime : Int), .int .u32 (n.mtime : Int), .int .u64 (n.length : Int), .string n.name, .string n.uid, .string n.gid, .string n.muid] 90)).cell? ⟨bn, 6, none⟩ = some (.int .u32 (n.atime : Int)) := (cell_of_row _ _ _ _ _ _ N10.out).trans rfl
  have c7 : (w10.alloc (.cells #[.int .u16 (n.typ : Int), .int .u32 (n.dev : Int), .int .u8 (n.qid.kind : Int), .int .u32 (n.qid.vers : Int), .int .u64 (n.qid.path : Int), .int .u32 (n.mode : Int), .int .u32 (n.atime : Int), .int .u32 (n.mtime : Int), .int .u64 (n.length : Int), .string n.name, .string n.uid, .string n.gid, .string n.muid] 90)).cell? ⟨bn, 7, none⟩ = some (.int .u32 (n.mtime : Int)) := (cell_of_row _ _ _ _ _ _ N10.out).trans rfl
  have c8 : (w10.alloc (.cells #[.int .u16 (n.typ : Int), .int .u32 (n.dev : Int), .int .u8 (n.qid.kind : Int), .int .u32 (n.qid.vers : Int), .int .u64 (n.qid.path : Int), .int .u32 (n.mode : Int), .int .u32 (n.atime : Int), .int .u32 (n.mtime : Int), .int .u64 (n.length : Int), .string n.name, .string n.uid, .string n.gid, .string n.muid] 90)).cell? ⟨bn, 8, none⟩ = some (.int .u64 (n.length : Int)) := (cell_of_row _ _ _ _ _ _ N10.out).trans rfl
  have c9 : (w10.alloc (.cells #[.int .u16 (n.typ : Int), .int .u32 (n.dev : Int), .int .u8 (n.qid.kind : Int), .int .u32 (n.qid.vers : Int), .int .u64 (n.qid.path : Int), .int .u32 (n.mode : Int), .int .u32 (n.atime : Int), .int .u32 (n.mtime : Int), .int .u64 (n.length : Int), .string n.name, .string n.uid, .string n.gid, .string n.muid] 90)).cell? ⟨bn, 9, none⟩ = some (.string n.name) := (cell_of_row _ _ _ _ _ _ N10.out).trans rfl
  have c10 : (w10.alloc (.cells #[.int .u16 (n.typ : Int), .int .u32 (n.dev : Int), .int .u8 (n.qid.kind : Int), .int .u32 (n.qid.vers : Int), .int .u64 (n.qid.path : Int), .int .u32 (n.mode : Int), .int .u32 (n.atime : Int), .int .u32 (n.mtime : Int), .int .u64 (n.length : Int), .string n.name, .string n.uid, .string n.gid, .string n.muid] 90)).cell? ⟨bn, 10, none⟩ = some (.string n.uid) := (cell_of_row _ _ _ _ _ _ N10.out).trans rfl
  have c11 : (w10.alloc (.cells #[.int .u16 (n.typ : Int), .int .u32 (n.dev : Int), .int .u8 (n.qid.kind : Int), .int .u32 (n.qid.vers : Int), .int .u64 (n.qid.path : Int), .int .u32 (n.mode : Int), .int .u32 (n.atime : Int), .int .u32 (n.mtime : Int), .int .u64 (n.length : Int), .string n.name, .string n.uid, .string n.gid, .string n.muid] 90)).cell? ⟨bn, 11, none⟩ = some (.string n.gid) := (cell_of_row _ _ _ _ _ _ N10.out).trans rfl
  have c12 : (w10.alloc (.cells #[.int .u16 (n.typ : Int), .int .u32 (n.dev : Int), .int .u8 (n.qid.kind : Int), .int .u32 (n.qid.vers : Int), .int .u64 (n.qid.path : Int), .int .u32 (n.mode : Int), .int .u32 (n.atime : Int), .int .u32 (n.mtime : Int), .int .u64 (n.length : Int), .string n.name, .string n.uid, .string n.gid, .string n.muid] 90)).cell? ⟨bn, 12, none⟩ = some (.string n.muid) := (cell_of_row _ _ _ _ _ _ N10.out).trans rfl
  unfold statV
  go_wp2_with (first | (refine wpList_load_row rfl 90 _ rfl ba rfl 90 (statV a) (0, 0) _ A10.out Tryd.underlying90 rfl info90 ?_))
  clear c0 c1 c2 c3 c4 c5 c6 c7 c8 c9 c10 c11 c12
  refine (parts_any a HA.out _).mono ?_; rintro e w11 ⟨ga, xa, rfl, hga, hxa, hm⟩
  have M11 := Lib.hid (M10.out.trans hm (by simp))
  have B11 := Lib.hid (hm.heap B10.out (by simp))
  have N11 := Lib.hid (hm.heap N10.out (by simp))
  have GA1 := Lib.hid hga
  have XA1 := Lib.hid hxa
  clear hm M10 A10 B10 N10 hga hxa
  go_wp2_with (first | (refine wpList_load_row rfl 90 _ rfl bh rfl 90 (statV h) (0, 0) _ B11.out Tryd.underlying90 rfl info90 ?_))
  refine (parts_any h HH.out _).mono ?_; rintro e w12 ⟨gh, xh, rfl, hgh, hxh, hm⟩
  have M12 := Lib.hid (M11.out.trans hm (by simp))
  have N12 := Lib.hid (hm.heap N11.out (by simp))
  have GA2 := Lib.hid (hm.heap GA1.out (by simp))
  have XA2 := Lib.hid (hm.heap XA1.out (by simp))
  have GH2 := Lib.hid hgh
  have XH2 := Lib.hid hxh
  clear hm M11 B11 N11 GA1 XA1 hgh hxh
  go_wp2_with (first | (refine wpList_load_row rfl 90 _ rfl bn rfl 90 (statV n) (0, 0) _ N12.out Tryd.underlying90 rfl info90 ?_))
  refine (parts_any n HN.out _).mono ?_; rintro e w13 ⟨gn, xn, rfl, hgn, hxn, hm⟩
  have M13 := Lib.hid (M12.out.trans hm (by simp))
  have GA := Lib.hid (hm.heap GA2.out (by simp))
  have XA := Lib.hid (hm.heap XA2.out (by simp))
  have GH := Lib.hid (hm.heap GH2.out (by simp))
  have XH := Lib.hid (hm.heap XH2.out (by simp))
  have GN := Lib.hid hgn
  have XN := Lib.hid hxn
  clear hm M12 N12 GA2 XA2 GH2 XH2 hgn hxn
  go_wp2_with fail
  go_loopw [20] (fun i wr => RelT w13 i wr) (fun i _ => 13 - (intOf i).toNat)
  case atStart => exact ⟨0, 0, by omega, rfl, rfl⟩
  case round =>
    obtain ⟨k, m, hk, rfl, rfl⟩ := hrel
    rcases Nat.lt_or_ge k 13 with hlt | hge
    · obtain ⟨b, na, nh, nn, ta, th, tn, p0, p1, p2, p3, p4, p5, p6, p7⟩ := X7.out k hlt
      have e1 : (w13.drewN m).cell? ⟨ga, k, none⟩ = some (.int .u64 (na : Int)) := (cell_of_row _ _ k _ _ _ (show (w13.drewN m).heap[ga]? = _ from GA.out)).trans (by simp [p1, nV])
      have e2 : (w13.drewN m).cell? ⟨gh, k, none⟩ = some (.int .u64 (nh : Int)) := (cell_of_row _ _ k _ _ _ (show (w13.drewN m).heap[gh]? = _ from GH.out)).trans (by simp [p2, nV])
      have e3 : (w13.drewN m).cell? ⟨gn, k, none⟩ = some (.int .u64 (nn : Int)) := (cell_of_row _ _ k _ _ _ (show (w13.drewN m).heap[gn]? = _ from GN.out)).trans (by simp [p3, nV])
      have e4 : (w13.drewN m).cell? ⟨xa, k, none⟩ = some (.string ta) := (cell_of_row _ _ k _ _ _ (show (w13.drewN m).heap[xa]? = _ from XA.out)).trans (by simp [p4])
      have e5 : (w13.drewN m).cell? ⟨xh, k, none⟩ = some (.string th) := (cell_of_row _ _ k _ _ _ (show (w13.drewN m).heap[xh]? = _ from XH.out)).trans (by simp [p5])
      have e6 : (w13.drewN m).cell? ⟨xn, k, none⟩ = some (.string tn) := (cell_of_row _ _ k _ _ _ (show (w13.drewN m).heap[xn]? = _ from XN.out)).trans (by simp [p6])
      have P0 := Lib.hid p0
      have P7 := Lib.hid p7
      have hF := X6.out
      clear p0 p1 p2 p3 p4 p5 p6 p7
      generalize hv : w13.drewN m = wv at *
      have HV := Lib.hid hv
      clear hv
      have hpp := P7.out
      have hbit := shr_bit F k b P0.out
      have HBIT := Lib.hid hbit
      clear hbit
      cases b
      · obtain ⟨rfl, rfl⟩ : nn = nh ∧ tn = th := hpp
        have hbit := HBIT.out
        have hne := nat_ne_self nn
        go_wp2_with fail
        go_quiet (fail)
        go_wp2_with fail
        go_quiet (fail)
        go_wp2_with fail
        exact ⟨⟨k + 1, _, by omega, rfl, by rw [← HV.out]; first | rfl | rw [World.drewN_drewN, World.drewN_drewN] | rw [World.drewN_drewN]⟩, by simp only [intOf]; omega⟩
      · obtain ⟨rfl, rfl, hpp⟩ : nn = na ∧ tn = ta ∧ (na ≠ nh ∨ ta ≠ th) := hpp
        have hbit := HBIT.out
        have hne := nat_ne_self nn
        by_cases hnn : nn = nh
        · have htt : (tn.toList == th.toList) = false := by
            rw [list_eq, decide_eq_false_iff_not]
            rcases hpp with h | h
            · exact absurd hnn h
            · exact h
          subst hnn
          clear hpp
          go_wp2_with fail
          go_quiet (fail)
          go_wp2_with fail
          go_quiet (fail)
          go_wp2_with fail
          exact ⟨⟨k + 1, _, by omega, rfl, by rw [← HV.out]; first | rfl | rw [World.drewN_drewN, World.drewN_drewN] | rw [World.drewN_drewN]⟩, by simp only [intOf]; omega⟩
        · have hnn' : ((nn : Int) == (nh : Int)) = false := by rw [beq_eq_false_iff_ne]; omega
          clear hpp hnn
          go_wp2_with fail
          go_quiet (fail)
          go_wp2_with fail
          go_quiet (fail)
          go_wp2_with fail
          exact ⟨⟨k + 1, _, by omega, rfl, by rw [← HV.out]; first | rfl | rw [World.drewN_drewN, World.drewN_drewN] | rw [World.drewN_drewN]⟩, by simp only [intOf]; omega⟩
    · obtain rfl : k = 13 := by omega
      have hF := X6.out
      have hF2 : decide ((F : Int) < 8192) = true := by simp; omega
      go_wp2_with fail
      go_ret
      exact ⟨rfl, M13.out.drewN m⟩
theorem touches_any {w : World} (hT : Lib.Utf8Tabs 0 1 w) (a h : StatP) (ha : a.Fits) (hh : h.Fits) (hza : a.size ≤ 600000000000000) (hzh : h.size ≤ 600000000000000) :
    Calls Tryd.prog 15 #[.agg (statV a), .agg (statV h)] w fun e w' => e = .returned (.bool true) ∧ Mods [] w w' :=
  touches_k hT keepS a h (overS a h) touched overS (touched a h) ha hh (over_fits ha hh) hza hzh keep_any touched_any over_any (touched_keep h) (over_keep h) (touched_self h) (touched_over a h) (over_over a h) rfl rfl (touched_lt a h)
    (fun k hk => by
      obtain ⟨b, na, nh, nn, ta, th, tn, p0, p1, p2, p3, p4, p5, p6, p7⟩ := parts_ok a h hk
      refine ⟨b, na, nh, nn, ta, th, tn, ?_, p1, p2, p3, p4, p5, p6, p7⟩
      have := maskL_bit (touch a h) k
      rw [p0] at this
      unfold touched
      rw [this]
      simp)
end Go.Proofs.YtedddekkbgaolaaDoor
