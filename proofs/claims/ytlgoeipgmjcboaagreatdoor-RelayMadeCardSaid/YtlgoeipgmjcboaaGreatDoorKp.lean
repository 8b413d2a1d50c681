/- The law's works: what the chapter's first examples fix. (Printed by wip/bin/genko.py.) | RelayNames: walked. -/
import Derived.Test.YtlgoeipgmjcboaaGreatDoorKm
namespace Go.Proofs.YtlgoeipgmjcboaaGreatDoor
open Go.RowKit Me
theorem outs_own {w : World} {base : Nat} {vo : Value} {o : OutV} (h : OutsR w base vo [o]) : o.cells.toArray.all (·.oneCell') = true := by
  rw [Array.all_eq_true_iff_forall_mem]
  intro u hu
  exact out_one o.c o.m o.vn o.vq o.vd (h.own o (by simp)).plain u (List.mem_toArray.1 hu)
theorem Kept.at {w0 w : World} {r : Nat} {R : RelP} {G : Gh} {ks : List (Nat × OutV)} (h : Kept w0 w r R G ks) {b : Nat} {o : OutV} (hb : (b, o) ∈ ks) (j : Nat) : w.cell? ⟨b, j, none⟩ = o.cells[j]? := by
  rw [cell_of_row _ _ _ _ _ _ (h.kept _ hb).2, List.getElem?_toArray]
set_option maxRecDepth 100000 in
set_option maxHeartbeats 64000000 in
theorem works_any (w : World) (hT : Lib.Utf8Tabs 4 5 w) (hc : ∃ m : Int, w.cell? ⟨0, 0, none⟩ = some (.int .i64 m)) : Calls Tryz.prog 6 #[] w fun e w' => e = .returned (.bool true) ∧ Mods [] w w' := by
  have hok : newOk ((2 : Nat) : Int) 8192 ((4 : Nat) : Int) ((3 : Nat) : Int) := ⟨by decide, by decide, by decide, by decide⟩
  have HNEW : Hid (Calls Tryz.prog 7 #[.int .i64 2, .int .u32 8192, .int .i64 4, .int .i64 3] w fun e w' => ∃ r G, e = .returned (.tuple #[.pointer (some ⟨r, 0, none⟩), .int .i64 0]) ∧ IsRel w' r Fix.R0 Fix.R0.used G nilS ∧ (∀ k ∈ G.F, w.heap.size ≤ k) ∧ Mods [] w w') := Lib.hid (new_any hok w)
  have HT := Lib.hid hT
  have HC := Lib.hid hc
  clear hok hT hc
  obtain ⟨mc0, hmc0⟩ : ∃ mc, mc = (msgC (tverM 1024) nilS nilS nilS).toArray := ⟨_, rfl⟩
  have HM0 := Lib.hid hmc0
  have HV0 : Hid (∀ w, Calls Tryz.prog 25 #[.int .u32 1024] w fun e w' => e = .returned (.agg mc0) ∧ Mods [] w w') := Lib.hid (fun w => by
    rw [hmc0]
    exact version_any 1024 w)
  clear hmc0
  obtain ⟨mc1, hmc1⟩ : ∃ mc, mc = (msgC (tverM 65536) nilS nilS nilS).toArray := ⟨_, rfl⟩
  have HM1 := Lib.hid hmc1
  have HV1 : Hid (∀ w, Calls Tryz.prog 25 #[.int .u32 65536] w fun e w' => e = .returned (.agg mc1) ∧ Mods [] w w') := Lib.hid (fun w => by
    rw [hmc1]
    exact version_any 65536 w)
  clear hmc1
  obtain ⟨mc2, hmc2⟩ : ∃ mc, mc = (msgC Fix.att nilS nilS nilS).toArray := ⟨_, rfl⟩
  have HM2 := Lib.hid hmc2
  have hb := Fix.bAtt
  rw [← hmc2] at hb
  have HB2 := Lib.hid hb
  clear hb hmc2
  obtain ⟨mc3, hmc3⟩ : ∃ mc, mc = (msgC Fix.att nilS nilS nilS).toArray := ⟨_, rfl⟩
  have HM3 := Lib.hid hmc3
  have hb := Fix.bAtt
  rw [← hmc3] at hb
  have HB3 := Lib.hid hb
  clear hb hmc3
  obtain ⟨mc4, hmc4⟩ : ∃ mc, mc = (msgC (Fix.rat 1) nilS nilS nilS).toArray := ⟨_, rfl⟩
  have HM4 := Lib.hid hmc4
  have hb := Fix.bRat1
  rw [← hmc4] at hb
  have HB4 := Lib.hid hb
  clear hb hmc4
  obtain ⟨mc5, hmc5⟩ : ∃ mc, mc = (msgC (Fix.rat 0) nilS nilS nilS).toArray := ⟨_, rfl⟩
  have HM5 := Lib.hid hmc5
  have hb := Fix.bRat0
  rw [← hmc5] at hb
  have HB5 := Lib.hid hb
  clear hb hmc5
  obtain ⟨mc6, hmc6⟩ : ∃ mc, mc = (msgC (Fix.rat 0) nilS nilS nilS).toArray := ⟨_, rfl⟩
  have HM6 := Lib.hid hmc6
  have hb := Fix.bRat0
  rw [← hmc6] at hb
  have HB6 := Lib.hid hb
  clear hb hmc6
  obtain ⟨mc7, hmc7⟩ : ∃ mc, mc = (msgC Fix.opn nilS nilS nilS).toArray := ⟨_, rfl⟩
  have HM7 := Lib.hid hmc7
  have hb := Fix.bOpn
  rw [← hmc7] at hb
  have HB7 := Lib.hid hb
  clear hb hmc7
  obtain ⟨mc8, hmc8⟩ : ∃ mc, mc = (msgC Fix.rop nilS nilS nilS).toArray := ⟨_, rfl⟩
  have HM8 := Lib.hid hmc8
  have hb := Fix.bRop
  rw [← hmc8] at hb
  have HB8 := Lib.hid hb
  clear hb hmc8
  obtain ⟨mc9, hmc9⟩ : ∃ mc, mc = (msgC Fix.rea nilS nilS nilS).toArray := ⟨_, rfl⟩
  have HM9 := Lib.hid hmc9
  have hb := Fix.bRea
  rw [← hmc9] at hb
  have HB9 := Lib.hid hb
  clear hb hmc9
  go_enter Tryz.func6, Tryz.ntmps6
  go_wp2_with fail
  refine HNEW.out.mono ?_
  rintro e w0 ⟨r, G0, rfl, hrel, hF, hm⟩
  have K0 := Lib.hid (Kept.start (B := 0) hrel hF hm HT.out HC.out rfl)
  clear hrel hF hm
  go_wp2_with fail
  refine (HV0.out w0).mono ?_
  rintro e v0 ⟨rfl, hm⟩
  have KV0 := Lib.hid (K0.out.still hm)
  clear hm
  have hs := in_step (m := tverM 1024) KV0.out 1 Fix.small_v1 ⟨rfl, rfl, rfl⟩ Fix.s1
  rw [← HM0.out] at hs
  have HS0 := Lib.hid hs
  clear hs
  go_wp2_with fail
  refine HS0.out.mono ?_
  rintro e x0 ⟨A0, c0, o0, G0, rfl, hk, q1, q2, ho⟩
  have KX0 := Lib.hid hk
  have P0 := Lib.hid q1
  have Q0 := Lib.hid q2
  have HO0 := Lib.hid (one_any ho)
  have HE0 := Lib.hid (outs_own ho)
  have HI0 : Hid ((Tryz.prog.info? 49).map (·.size) = some o0.cells.toArray.size) := Lib.hid (info49a o0.c o0.m o0.vn o0.vq o0.vd)
  clear hk q1 q2 ho
  go_wp2_with fail
  refine HO0.out.mono ?_
  rintro e y0 ⟨rfl, hm⟩
  have KY0 := Lib.hid (KX0.out.still hm)
  clear hm
  go_wp2_with (first | (refine wpList_store_row rfl 49 _ _ rfl y0.heap.size o0.cells.toArray rfl rfl 49 _ (heap_alloc_new y0 _) HI0.out rfl HE0.out ?_))
  have KZ0 := Lib.hid (KY0.out.add (Z := #[.int .i64 0, .int .u8 0, .int .u16 0, .int .u32 0, .string { data := #[] }, .int .u32 0, .string { data := #[] }, .string { data := #[] }, .string { data := #[] }, .int .u16 0, .int .u32 0, .int .u32 0, .slice none 0 0, .slice none 0 0, .int .u8 0, .int .u32 0, .int .u64 0, .int .u8 0, .int .u32 0, .string { data := #[] }, .int .u32 0, .int .u64 0, .int .u32 0, .slice none 0 0, .int .u16 0, .int .u32 0, .int .u8 0, .int .u32 0, .int .u64 0, .int .u32 0, .int .u32 0, .int .u32 0, .int .u64 0, .string { data := #[] }, .string { data := #[] }, .string { data := #[] }, .string { data := #[] }]) o0)
  generalize hz0 : (y0.alloc (.cells #[.int .i64 0, .int .u8 0, .int .u16 0, .int .u32 0, .string { data := #[] }, .int .u32 0, .string { data := #[] }, .string { data := #[] }, .string { data := #[] }, .int .u16 0, .int .u32 0, .int .u32 0, .slice none 0 0, .slice none 0 0, .int .u8 0, .int .u32 0, .int .u64 0, .int .u8 0, .int .u32 0, .string { data := #[] }, .int .u32 0, .int .u64 0, .int .u32 0, .slice none 0 0, .int .u16 0, .int .u32 0, .int .u8 0, .int .u32 0, .int .u64 0, .int .u32 0, .int .u32 0, .int .u32 0, .int .u64 0, .string { data := #[] }, .string { data := #[] }, .string { data := #[] }, .string { data := #[] }] 49)).setRow y0.heap.size o0.cells.toArray = z0 at *
  generalize hb0 : y0.heap.size = b0 at *
  clear hz0 hb0 HS0 HO0 HE0 HI0 KX0 KY0
  refine (HV1.out z0).mono ?_
  rintro e v1 ⟨rfl, hm⟩
  have KV1 := Lib.hid (KZ0.out.still hm)
  clear hm
  have hs := in_step (m := tverM 65536) KV1.out 2 Fix.small_v2 ⟨rfl, rfl, rfl⟩ Fix.s2
  rw [← HM1.out] at hs
  have HS1 := Lib.hid hs
  clear hs
  go_wp2_with fail
  refine HS1.out.mono ?_
  rintro e x1 ⟨A1, c1, o1, G1, rfl, hk, q1, q2, ho⟩
  have KX1 := Lib.hid hk
  have P1 := Lib.hid q1
  have Q1 := Lib.hid q2
  have HO1 := Lib.hid (one_any ho)
  have HE1 := Lib.hid (outs_own ho)
  have HI1 : Hid ((Tryz.prog.info? 49).map (·.size) = some o1.cells.toArray.size) := Lib.hid (info49a o1.c o1.m o1.vn o1.vq o1.vd)
  clear hk q1 q2 ho
  go_wp2_with fail
  refine HO1.out.mono ?_
  rintro e y1 ⟨rfl, hm⟩
  have KY1 := Lib.hid (KX1.out.still hm)
  clear hm
  go_wp2_with (first | (refine wpList_store_row rfl 49 _ _ rfl y1.heap.size o1.cells.toArray rfl rfl 49 _ (heap_alloc_new y1 _) HI1.out rfl HE1.out ?_) | (refine wpList_built rfl 47 _ rfl mc2 (by simp only [List.map_toArray, List.map_cons, List.map_nil]; exact HB2.out) ?_))
  have KZ1 := Lib.hid (KY1.out.add (Z := #[.int .i64 0, .int .u8 0, .int .u16 0, .int .u32 0, .string { data := #[] }, .int .u32 0, .string { data := #[] }, .string { data := #[] }, .string { data := #[] }, .int .u16 0, .int .u32 0, .int .u32 0, .slice none 0 0, .slice none 0 0, .int .u8 0, .int .u32 0, .int .u64 0, .int .u8 0, .int .u32 0, .string { data := #[] }, .int .u32 0, .int .u64 0, .int .u32 0, .slice none 0 0, .int .u16 0, .int .u32 0, .int .u8 0, .int .u32 0, .int .u64 0, .int .u32 0, .int .u32 0, .int .u32 0, .int .u64 0, .string { data := #[] }, .string { data := #[] }, .string { data := #[] }, .string { data := #[] }]) o1)
  generalize hz1 : (y1.alloc (.cells #[.int .i64 0, .int .u8 0, .int .u16 0, .int .u32 0, .string { data := #[] }, .int .u32 0, .string { data := #[] }, .string { data := #[] }, .string { data := #[] }, .int .u16 0, .int .u32 0, .int .u32 0, .slice none 0 0, .slice none 0 0, .int .u8 0, .int .u32 0, .int .u64 0, .int .u8 0, .int .u32 0, .string { data := #[] }, .int .u32 0, .int .u64 0, .int .u32 0, .slice none 0 0, .int .u16 0, .int .u32 0, .int .u8 0, .int .u32 0, .int .u64 0, .int .u32 0, .int .u32 0, .int .u32 0, .int .u64 0, .string { data := #[] }, .string { data := #[] }, .string { data := #[] }, .string { data := #[] }] 49)).setRow y1.heap.size o1.cells.toArray = z1 at *
  generalize hb1 : y1.heap.size = b1 at *
  clear hz1 hb1 HS1 HO1 HE1 HI1 KX1 KY1
  have hs := in_step KZ1.out 1 Fix.small_att ⟨rfl, rfl, rfl⟩ Fix.s3
  rw [← HM2.out] at hs
  have HS2 := Lib.hid hs
  clear hs
  refine HS2.out.mono ?_
  rintro e x2 ⟨A2, c2, o2, G2, rfl, hk, q1, q2, ho⟩
  have KX2 := Lib.hid hk
  have P2 := Lib.hid q1
  have Q2 := Lib.hid q2
  have HO2 := Lib.hid (one_any ho)
  have HE2 := Lib.hid (outs_own ho)
  have HI2 : Hid ((Tryz.prog.info? 49).map (·.size) = some o2.cells.toArray.size) := Lib.hid (info49a o2.c o2.m o2.vn o2.vq o2.vd)
  clear hk q1 q2 ho
  go_wp2_with fail
  refine HO2.out.mono ?_
  rintro e y2 ⟨rfl, hm⟩
  have KY2 := Lib.hid (KX2.out.still hm)
  clear hm
  go_wp2_with (first | (refine wpList_store_row rfl 49 _ _ rfl y2.heap.size o2.cells.toArray rfl rfl 49 _ (heap_alloc_new y2 _) HI2.out rfl HE2.out ?_) | (refine wpList_built rfl 47 _ rfl mc3 (by simp only [List.map_toArray, List.map_cons, List.map_nil]; exact HB3.out) ?_))
  have KZ2 := Lib.hid (KY2.out.add (Z := #[.int .i64 0, .int .u8 0, .int .u16 0, .int .u32 0, .string { data := #[] }, .int .u32 0, .string { data := #[] }, .string { data := #[] }, .string { data := #[] }, .int .u16 0, .int .u32 0, .int .u32 0, .slice none 0 0, .slice none 0 0, .int .u8 0, .int .u32 0, .int .u64 0, .int .u8 0, .int .u32 0, .string { data := #[] }, .int .u32 0, .int .u64 0, .int .u32 0, .slice none 0 0, .int .u16 0, .int .u32 0, .int .u8 0, .int .u32 0, .int .u64 0, .int .u32 0, .int .u32 0, .int .u32 0, .int .u64 0, .string { data := #[] }, .string { data := #[] }, .string { data := #[] }, .string { data := #[] }]) o2)
  generalize hz2 : (y2.alloc (.cells #[.int .i64 0, .int .u8 0, .int .u16 0, .int .u32 0, .string { data := #[] }, .int .u32 0, .string { data := #[] }, .string { data := #[] }, .string { data := #[] }, .int .u16 0, .int .u32 0, .int .u32 0, .slice none 0 0, .slice none 0 0, .int .u8 0, .int .u32 0, .int .u64 0, .int .u8 0, .int .u32 0, .string { data := #[] }, .int .u32 0, .int .u64 0, .int .u32 0, .slice none 0 0, .int .u16 0, .int .u32 0, .int .u8 0, .int .u32 0, .int .u64 0, .int .u32 0, .int .u32 0, .int .u32 0, .int .u64 0, .string { data := #[] }, .string { data := #[] }, .string { data := #[] }, .string { data := #[] }] 49)).setRow y2.heap.size o2.cells.toArray = z2 at *
  generalize hb2 : y2.heap.size = b2 at *
  clear hz2 hb2 HS2 HO2 HE2 HI2 KX2 KY2
  have hs := in_step KZ2.out 2 Fix.small_att ⟨rfl, rfl, rfl⟩ Fix.s4
  rw [← HM3.out] at hs
  have HS3 := Lib.hid hs
  clear hs
  refine HS3.out.mono ?_
  rintro e x3 ⟨A3, c3, o3, G3, rfl, hk, q1, q2, ho⟩
  have KX3 := Lib.hid hk
  have P3 := Lib.hid q1
  have Q3 := Lib.hid q2
  have HO3 := Lib.hid (one_any ho)
  have HE3 := Lib.hid (outs_own ho)
  have HI3 : Hid ((Tryz.prog.info? 49).map (·.size) = some o3.cells.toArray.size) := Lib.hid (info49a o3.c o3.m o3.vn o3.vq o3.vd)
  clear hk q1 q2 ho
  go_wp2_with fail
  refine HO3.out.mono ?_
  rintro e y3 ⟨rfl, hm⟩
  have KY3 := Lib.hid (KX3.out.still hm)
  clear hm
  go_wp2_with (first | (refine wpList_store_row rfl 49 _ _ rfl y3.heap.size o3.cells.toArray rfl rfl 49 _ (heap_alloc_new y3 _) HI3.out rfl HE3.out ?_) | (refine wpList_built rfl 47 _ rfl mc4 (by simp only [List.map_toArray, List.map_cons, List.map_nil]; exact HB4.out) ?_))
  have KZ3 := Lib.hid (KY3.out.add (Z := #[.int .i64 0, .int .u8 0, .int .u16 0, .int .u32 0, .string { data := #[] }, .int .u32 0, .string { data := #[] }, .string { data := #[] }, .string { data := #[] }, .int .u16 0, .int .u32 0, .int .u32 0, .slice none 0 0, .slice none 0 0, .int .u8 0, .int .u32 0, .int .u64 0, .int .u8 0, .int .u32 0, .string { data := #[] }, .int .u32 0, .int .u64 0, .int .u32 0, .slice none 0 0, .int .u16 0, .int .u32 0, .int .u8 0, .int .u32 0, .int .u64 0, .int .u32 0, .int .u32 0, .int .u32 0, .int .u64 0, .string { data := #[] }, .string { data := #[] }, .string { data := #[] }, .string { data := #[] }]) o3)
  generalize hz3 : (y3.alloc (.cells #[.int .i64 0, .int .u8 0, .int .u16 0, .int .u32 0, .string { data := #[] }, .int .u32 0, .string { data := #[] }, .string { data := #[] }, .string { data := #[] }, .int .u16 0, .int .u32 0, .int .u32 0, .slice none 0 0, .slice none 0 0, .int .u8 0, .int .u32 0, .int .u64 0, .int .u8 0, .int .u32 0, .string { data := #[] }, .int .u32 0, .int .u64 0, .int .u32 0, .slice none 0 0, .int .u16 0, .int .u32 0, .int .u8 0, .int .u32 0, .int .u64 0, .int .u32 0, .int .u32 0, .int .u32 0, .int .u64 0, .string { data := #[] }, .string { data := #[] }, .string { data := #[] }, .string { data := #[] }] 49)).setRow y3.heap.size o3.cells.toArray = z3 at *
  generalize hb3 : y3.heap.size = b3 at *
  clear hz3 hb3 HS3 HO3 HE3 HI3 KX3 KY3
  have hs := back_step KZ3.out Fix.small_r1 ⟨rfl, rfl, rfl⟩ Fix.s5
  rw [← HM4.out] at hs
  have HS4 := Lib.hid hs
  clear hs
  refine HS4.out.mono ?_
  rintro e x4 ⟨A4, c4, o4, G4, rfl, hk, q1, q2, ho⟩
  have KX4 := Lib.hid hk
  have P4 := Lib.hid q1
  have Q4 := Lib.hid q2
  have HO4 := Lib.hid (one_any ho)
  have HE4 := Lib.hid (outs_own ho)
  have HI4 : Hid ((Tryz.prog.info? 49).map (·.size) = some o4.cells.toArray.size) := Lib.hid (info49a o4.c o4.m o4.vn o4.vq o4.vd)
  clear hk q1 q2 ho
  go_wp2_with fail
  refine HO4.out.mono ?_
  rintro e y4 ⟨rfl, hm⟩
  have KY4 := Lib.hid (KX4.out.still hm)
  clear hm
  go_wp2_with (first | (refine wpList_store_row rfl 49 _ _ rfl y4.heap.size o4.cells.toArray rfl rfl 49 _ (heap_alloc_new y4 _) HI4.out rfl HE4.out ?_) | (refine wpList_built rfl 47 _ rfl mc5 (by simp only [List.map_toArray, List.map_cons, List.map_nil]; exact HB5.out) ?_))
  have KZ4 := Lib.hid (KY4.out.add (Z := #[.int .i64 0, .int .u8 0, .int .u16 0, .int .u32 0, .string { data := #[] }, .int .u32 0, .string { data := #[] }, .string { data := #[] }, .string { data := #[] }, .int .u16 0, .int .u32 0, .int .u32 0, .slice none 0 0, .slice none 0 0, .int .u8 0, .int .u32 0, .int .u64 0, .int .u8 0, .int .u32 0, .string { data := #[] }, .int .u32 0, .int .u64 0, .int .u32 0, .slice none 0 0, .int .u16 0, .int .u32 0, .int .u8 0, .int .u32 0, .int .u64 0, .int .u32 0, .int .u32 0, .int .u32 0, .int .u64 0, .string { data := #[] }, .string { data := #[] }, .string { data := #[] }, .string { data := #[] }]) o4)
  generalize hz4 : (y4.alloc (.cells #[.int .i64 0, .int .u8 0, .int .u16 0, .int .u32 0, .string { data := #[] }, .int .u32 0, .string { data := #[] }, .string { data := #[] }, .string { data := #[] }, .int .u16 0, .int .u32 0, .int .u32 0, .slice none 0 0, .slice none 0 0, .int .u8 0, .int .u32 0, .int .u64 0, .int .u8 0, .int .u32 0, .string { data := #[] }, .int .u32 0, .int .u64 0, .int .u32 0, .slice none 0 0, .int .u16 0, .int .u32 0, .int .u8 0, .int .u32 0, .int .u64 0, .int .u32 0, .int .u32 0, .int .u32 0, .int .u64 0, .string { data := #[] }, .string { data := #[] }, .string { data := #[] }, .string { data := #[] }] 49)).setRow y4.heap.size o4.cells.toArray = z4 at *
  generalize hb4 : y4.heap.size = b4 at *
  clear hz4 hb4 HS4 HO4 HE4 HI4 KX4 KY4
  have hs := back_step KZ4.out Fix.small_r0 ⟨rfl, rfl, rfl⟩ Fix.s6
  rw [← HM5.out] at hs
  have HS5 := Lib.hid hs
  clear hs
  refine HS5.out.mono ?_
  rintro e x5 ⟨A5, c5, o5, G5, rfl, hk, q1, q2, ho⟩
  have KX5 := Lib.hid hk
  have P5 := Lib.hid q1
  have Q5 := Lib.hid q2
  have HO5 := Lib.hid (one_any ho)
  have HE5 := Lib.hid (outs_own ho)
  have HI5 : Hid ((Tryz.prog.info? 49).map (·.size) = some o5.cells.toArray.size) := Lib.hid (info49a o5.c o5.m o5.vn o5.vq o5.vd)
  clear hk q1 q2 ho
  go_wp2_with fail
  refine HO5.out.mono ?_
  rintro e y5 ⟨rfl, hm⟩
  have KY5 := Lib.hid (KX5.out.still hm)
  clear hm
  go_wp2_with (first | (refine wpList_store_row rfl 49 _ _ rfl y5.heap.size o5.cells.toArray rfl rfl 49 _ (heap_alloc_new y5 _) HI5.out rfl HE5.out ?_) | (refine wpList_built rfl 47 _ rfl mc6 (by simp only [List.map_toArray, List.map_cons, List.map_nil]; exact HB6.out) ?_))
  have KZ5 := Lib.hid (KY5.out.add (Z := #[.int .i64 0, .int .u8 0, .int .u16 0, .int .u32 0, .string { data := #[] }, .int .u32 0, .string { data := #[] }, .string { data := #[] }, .string { data := #[] }, .int .u16 0, .int .u32 0, .int .u32 0, .slice none 0 0, .slice none 0 0, .int .u8 0, .int .u32 0, .int .u64 0, .int .u8 0, .int .u32 0, .string { data := #[] }, .int .u32 0, .int .u64 0, .int .u32 0, .slice none 0 0, .int .u16 0, .int .u32 0, .int .u8 0, .int .u32 0, .int .u64 0, .int .u32 0, .int .u32 0, .int .u32 0, .int .u64 0, .string { data := #[] }, .string { data := #[] }, .string { data := #[] }, .string { data := #[] }]) o5)
  generalize hz5 : (y5.alloc (.cells #[.int .i64 0, .int .u8 0, .int .u16 0, .int .u32 0, .string { data := #[] }, .int .u32 0, .string { data := #[] }, .string { data := #[] }, .string { data := #[] }, .int .u16 0, .int .u32 0, .int .u32 0, .slice none 0 0, .slice none 0 0, .int .u8 0, .int .u32 0, .int .u64 0, .int .u8 0, .int .u32 0, .string { data := #[] }, .int .u32 0, .int .u64 0, .int .u32 0, .slice none 0 0, .int .u16 0, .int .u32 0, .int .u8 0, .int .u32 0, .int .u64 0, .int .u32 0, .int .u32 0, .int .u32 0, .int .u64 0, .string { data := #[] }, .string { data := #[] }, .string { data := #[] }, .string { data := #[] }] 49)).setRow y5.heap.size o5.cells.toArray = z5 at *
  generalize hb5 : y5.heap.size = b5 at *
  clear hz5 hb5 HS5 HO5 HE5 HI5 KX5 KY5
  have hs := back_step_wrong KZ5.out Fix.small_r0 ⟨rfl, rfl, rfl⟩ Fix.s7
  rw [← HM6.out] at hs
  have HS6 := Lib.hid hs
  clear hs
  refine HS6.out.mono ?_
  rintro e x6 ⟨A6, k6, c6, G6, rfl, hk⟩
  have KX6 := Lib.hid hk
  clear hk
  go_wp2_with (first | fail | (refine wpList_built rfl 47 _ rfl mc7 (by simp only [List.map_toArray, List.map_cons, List.map_nil]; exact HB7.out) ?_))
  have hs := in_step KX6.out 1 Fix.small_opn ⟨rfl, rfl, rfl⟩ Fix.s8
  rw [← HM7.out] at hs
  have HS7 := Lib.hid hs
  clear hs
  refine HS7.out.mono ?_
  rintro e x7 ⟨A7, c7, o7, G7, rfl, hk, q1, q2, ho⟩
  have KX7 := Lib.hid hk
  have P7 := Lib.hid q1
  have Q7 := Lib.hid q2
  have HO7 := Lib.hid (one_any ho)
  have HE7 := Lib.hid (outs_own ho)
  have HI7 : Hid ((Tryz.prog.info? 49).map (·.size) = some o7.cells.toArray.size) := Lib.hid (info49a o7.c o7.m o7.vn o7.vq o7.vd)
  clear hk q1 q2 ho
  go_wp2_with fail
  refine HO7.out.mono ?_
  rintro e y7 ⟨rfl, hm⟩
  have KY7 := Lib.hid (KX7.out.still hm)
  clear hm
  go_wp2_with (first | (refine wpList_store_row rfl 49 _ _ rfl y7.heap.size o7.cells.toArray rfl rfl 49 _ (heap_alloc_new y7 _) HI7.out rfl HE7.out ?_) | (refine wpList_built rfl 47 _ rfl mc8 (by simp only [List.map_toArray, List.map_cons, List.map_nil]; exact HB8.out) ?_))
  have KZ7 := Lib.hid (KY7.out.add (Z := #[.int .i64 0, .int .u8 0, .int .u16 0, .int .u32 0, .string { data := #[] }, .int .u32 0, .string { data := #[] }, .string { data := #[] }, .string { data := #[] }, .int .u16 0, .int .u32 0, .int .u32 0, .slice none 0 0, .slice none 0 0, .int .u8 0, .int .u32 0, .int .u64 0, .int .u8 0, .int .u32 0, .string { data := #[] }, .int .u32 0, .int .u64 0, .int .u32 0, .slice none 0 0, .int .u16 0, .int .u32 0, .int .u8 0, .int .u32 0, .int .u64 0, .int .u32 0, .int .u32 0, .int .u32 0, .int .u64 0, .string { data := #[] }, .string { data := #[] }, .string { data := #[] }, .string { data := #[] }]) o7)
  generalize hz7 : (y7.alloc (.cells #[.int .i64 0, .int .u8 0, .int .u16 0, .int .u32 0, .string { data := #[] }, .int .u32 0, .string { data := #[] }, .string { data := #[] }, .string { data := #[] }, .int .u16 0, .int .u32 0, .int .u32 0, .slice none 0 0, .slice none 0 0, .int .u8 0, .int .u32 0, .int .u64 0, .int .u8 0, .int .u32 0, .string { data := #[] }, .int .u32 0, .int .u64 0, .int .u32 0, .slice none 0 0, .int .u16 0, .int .u32 0, .int .u8 0, .int .u32 0, .int .u64 0, .int .u32 0, .int .u32 0, .int .u32 0, .int .u64 0, .string { data := #[] }, .string { data := #[] }, .string { data := #[] }, .string { data := #[] }] 49)).setRow y7.heap.size o7.cells.toArray = z7 at *
  generalize hb7 : y7.heap.size = b7 at *
  clear hz7 hb7 HS7 HO7 HE7 HI7 KX7 KY7
  have hs := back_step KZ7.out Fix.small_rop ⟨rfl, rfl, rfl⟩ Fix.s9
  rw [← HM8.out] at hs
  have HS8 := Lib.hid hs
  clear hs
  refine HS8.out.mono ?_
  rintro e x8 ⟨A8, c8, o8, G8, rfl, hk, q1, q2, ho⟩
  have KX8 := Lib.hid hk
  have P8 := Lib.hid q1
  have Q8 := Lib.hid q2
  have HO8 := Lib.hid (one_any ho)
  have HE8 := Lib.hid (outs_own ho)
  have HI8 : Hid ((Tryz.prog.info? 49).map (·.size) = some o8.cells.toArray.size) := Lib.hid (info49a o8.c o8.m o8.vn o8.vq o8.vd)
  clear hk q1 q2 ho
  go_wp2_with fail
  refine HO8.out.mono ?_
  rintro e y8 ⟨rfl, hm⟩
  have KY8 := Lib.hid (KX8.out.still hm)
  clear hm
  go_wp2_with (first | (refine wpList_store_row rfl 49 _ _ rfl y8.heap.size o8.cells.toArray rfl rfl 49 _ (heap_alloc_new y8 _) HI8.out rfl HE8.out ?_) | (refine wpList_built rfl 47 _ rfl mc9 (by simp only [List.map_toArray, List.map_cons, List.map_nil]; exact HB9.out) ?_))
  have KZ8 := Lib.hid (KY8.out.add (Z := #[.int .i64 0, .int .u8 0, .int .u16 0, .int .u32 0, .string { data := #[] }, .int .u32 0, .string { data := #[] }, .string { data := #[] }, .string { data := #[] }, .int .u16 0, .int .u32 0, .int .u32 0, .slice none 0 0, .slice none 0 0, .int .u8 0, .int .u32 0, .int .u64 0, .int .u8 0, .int .u32 0, .string { data := #[] }, .int .u32 0, .int .u64 0, .int .u32 0, .slice none 0 0, .int .u16 0, .int .u32 0, .int .u8 0, .int .u32 0, .int .u64 0, .int .u32 0, .int .u32 0, .int .u32 0, .int .u64 0, .string { data := #[] }, .string { data := #[] }, .string { data := #[] }, .string { data := #[] }]) o8)
  generalize hz8 : (y8.alloc (.cells #[.int .i64 0, .int .u8 0, .int .u16 0, .int .u32 0, .string { data := #[] }, .int .u32 0, .string { data := #[] }, .string { data := #[] }, .string { data := #[] }, .int .u16 0, .int .u32 0, .int .u32 0, .slice none 0 0, .slice none 0 0, .int .u8 0, .int .u32 0, .int .u64 0, .int .u8 0, .int .u32 0, .string { data := #[] }, .int .u32 0, .int .u64 0, .int .u32 0, .slice none 0 0, .int .u16 0, .int .u32 0, .int .u8 0, .int .u32 0, .int .u64 0, .int .u32 0, .int .u32 0, .int .u32 0, .int .u64 0, .string { data := #[] }, .string { data := #[] }, .string { data := #[] }, .string { data := #[] }] 49)).setRow y8.heap.size o8.cells.toArray = z8 at *
  generalize hb8 : y8.heap.size = b8 at *
  clear hz8 hb8 HS8 HO8 HE8 HI8 KX8 KY8
  have hs := in_step KZ8.out 1 Fix.small_rea ⟨rfl, rfl, rfl⟩ Fix.s10
  rw [← HM9.out] at hs
  have HS9 := Lib.hid hs
  clear hs
  refine HS9.out.mono ?_
  rintro e x9 ⟨A9, c9, o9, G9, rfl, hk, q1, q2, ho⟩
  have KX9 := Lib.hid hk
  have P9 := Lib.hid q1
  have Q9 := Lib.hid q2
  have HO9 := Lib.hid (one_any ho)
  have HE9 := Lib.hid (outs_own ho)
  have HI9 : Hid ((Tryz.prog.info? 49).map (·.size) = some o9.cells.toArray.size) := Lib.hid (info49a o9.c o9.m o9.vn o9.vq o9.vd)
  clear hk q1 q2 ho
  go_wp2_with fail
  refine HO9.out.mono ?_
  rintro e y9 ⟨rfl, hm⟩
  have KY9 := Lib.hid (KX9.out.still hm)
  clear hm
  go_wp2_with (first | (refine wpList_store_row rfl 49 _ _ rfl y9.heap.size o9.cells.toArray rfl rfl 49 _ (heap_alloc_new y9 _) HI9.out rfl HE9.out ?_))
  have KZ9 := Lib.hid (KY9.out.add (Z := #[.int .i64 0, .int .u8 0, .int .u16 0, .int .u32 0, .string { data := #[] }, .int .u32 0, .string { data := #[] }, .string { data := #[] }, .string { data := #[] }, .int .u16 0, .int .u32 0, .int .u32 0, .slice none 0 0, .slice none 0 0, .int .u8 0, .int .u32 0, .int .u64 0, .int .u8 0, .int .u32 0, .string { data := #[] }, .int .u32 0, .int .u64 0, .int .u32 0, .slice none 0 0, .int .u16 0, .int .u32 0, .int .u8 0, .int .u32 0, .int .u64 0, .int .u32 0, .int .u32 0, .int .u32 0, .int .u64 0, .string { data := #[] }, .string { data := #[] }, .string { data := #[] }, .string { data := #[] }]) o9)
  generalize hz9 : (y9.alloc (.cells #[.int .i64 0, .int .u8 0, .int .u16 0, .int .u32 0, .string { data := #[] }, .int .u32 0, .string { data := #[] }, .string { data := #[] }, .string { data := #[] }, .int .u16 0, .int .u32 0, .int .u32 0, .slice none 0 0, .slice none 0 0, .int .u8 0, .int .u32 0, .int .u64 0, .int .u8 0, .int .u32 0, .string { data := #[] }, .int .u32 0, .int .u64 0, .int .u32 0, .slice none 0 0, .int .u16 0, .int .u32 0, .int .u8 0, .int .u32 0, .int .u64 0, .int .u32 0, .int .u32 0, .int .u32 0, .int .u64 0, .string { data := #[] }, .string { data := #[] }, .string { data := #[] }, .string { data := #[] }] 49)).setRow y9.heap.size o9.cells.toArray = z9 at *
  generalize hb9 : y9.heap.size = b9 at *
  clear hz9 hb9 HS9 HO9 HE9 HI9 KX9 KY9
  have HFI := Lib.hid (fids_any KZ9.out.live.rel 1)
  go_wp2_with fail
  refine HFI.out.mono ?_
  rintro e f ⟨rfl, hm⟩
  rw [Fix.s11]
  have KF := Lib.hid (KZ9.out.still hm)
  clear hm
  have HWA := Lib.hid (waiting_any KF.out.live.rel)
  go_wp2_with fail
  refine HWA.out.mono ?_
  rintro e f' ⟨rfl, rfl⟩
  have d0_0 : f'.cell? ⟨b0, 0, none⟩ = some (.int .i64 1) := by
    rw [KF.out.at (o := o0) (by simp) 0]
    show some (Value.int .i64 o0.c) = _
    rw [P0.out]
    rfl
  have d0_1 : f'.cell? ⟨b0, 1, none⟩ = some (.int .u8 101) := by
    rw [KF.out.at (o := o0) (by simp) 1]
    show some (Value.int .u8 (o0.m.kind : Int)) = _
    rw [Q0.out]
    rfl
  have d0_3 : f'.cell? ⟨b0, 3, none⟩ = some (.int .u32 1024) := by
    rw [KF.out.at (o := o0) (by simp) 3]
    show some (Value.int .u32 (o0.m.msize : Int)) = _
    rw [Q0.out]
    rfl
  have d1_0 : f'.cell? ⟨b1, 0, none⟩ = some (.int .i64 2) := by
    rw [KF.out.at (o := o1) (by simp) 0]
    show some (Value.int .i64 o1.c) = _
    rw [P1.out]
    rfl
  have d1_3 : f'.cell? ⟨b1, 3, none⟩ = some (.int .u32 8192) := by
    rw [KF.out.at (o := o1) (by simp) 3]
    show some (Value.int .u32 (o1.m.msize : Int)) = _
    rw [Q1.out]
    rfl
  have d2_0 : f'.cell? ⟨b2, 0, none⟩ = some (.int .i64 0) := by
    rw [KF.out.at (o := o2) (by simp) 0]
    show some (Value.int .i64 o2.c) = _
    rw [P2.out]
    rfl
  have d2_2 : f'.cell? ⟨b2, 2, none⟩ = some (.int .u16 0) := by
    rw [KF.out.at (o := o2) (by simp) 2]
    show some (Value.int .u16 (o2.m.tag : Int)) = _
    rw [Q2.out]
    rfl
  have d2_10 : f'.cell? ⟨b2, 10, none⟩ = some (.int .u32 0) := by
    rw [KF.out.at (o := o2) (by simp) 10]
    show some (Value.int .u32 (o2.m.fid : Int)) = _
    rw [Q2.out]
    rfl
  have d3_0 : f'.cell? ⟨b3, 0, none⟩ = some (.int .i64 0) := by
    rw [KF.out.at (o := o3) (by simp) 0]
    show some (Value.int .i64 o3.c) = _
    rw [P3.out]
    rfl
  have d3_2 : f'.cell? ⟨b3, 2, none⟩ = some (.int .u16 1) := by
    rw [KF.out.at (o := o3) (by simp) 2]
    show some (Value.int .u16 (o3.m.tag : Int)) = _
    rw [Q3.out]
    rfl
  have d3_10 : f'.cell? ⟨b3, 10, none⟩ = some (.int .u32 1) := by
    rw [KF.out.at (o := o3) (by simp) 10]
    show some (Value.int .u32 (o3.m.fid : Int)) = _
    rw [Q3.out]
    rfl
  have d4_0 : f'.cell? ⟨b4, 0, none⟩ = some (.int .i64 2) := by
    rw [KF.out.at (o := o4) (by simp) 0]
    show some (Value.int .i64 o4.c) = _
    rw [P4.out]
    rfl
  have d4_2 : f'.cell? ⟨b4, 2, none⟩ = some (.int .u16 7) := by
    rw [KF.out.at (o := o4) (by simp) 2]
    show some (Value.int .u16 (o4.m.tag : Int)) = _
    rw [Q4.out]
    rfl
  have d5_0 : f'.cell? ⟨b5, 0, none⟩ = some (.int .i64 1) := by
    rw [KF.out.at (o := o5) (by simp) 0]
    show some (Value.int .i64 o5.c) = _
    rw [P5.out]
    rfl
  have d5_2 : f'.cell? ⟨b5, 2, none⟩ = some (.int .u16 7) := by
    rw [KF.out.at (o := o5) (by simp) 2]
    show some (Value.int .u16 (o5.m.tag : Int)) = _
    rw [Q5.out]
    rfl
  have d7_2 : f'.cell? ⟨b7, 2, none⟩ = some (.int .u16 0) := by
    rw [KF.out.at (o := o7) (by simp) 2]
    show some (Value.int .u16 (o7.m.tag : Int)) = _
    rw [Q7.out]
    rfl
  have d7_10 : f'.cell? ⟨b7, 10, none⟩ = some (.int .u32 0) := by
    rw [KF.out.at (o := o7) (by simp) 10]
    show some (Value.int .u32 (o7.m.fid : Int)) = _
    rw [Q7.out]
    rfl
  have d8_0 : f'.cell? ⟨b8, 0, none⟩ = some (.int .i64 1) := by
    rw [KF.out.at (o := o8) (by simp) 0]
    show some (Value.int .i64 o8.c) = _
    rw [P8.out]
    rfl
  have d8_18 : f'.cell? ⟨b8, 18, none⟩ = some (.int .u32 1000) := by
    rw [KF.out.at (o := o8) (by simp) 18]
    show some (Value.int .u32 (o8.m.iounit : Int)) = _
    rw [Q8.out]
    rfl
  have d9_10 : f'.cell? ⟨b9, 10, none⟩ = some (.int .u32 4294967294) := by
    rw [KF.out.at (o := o9) (by simp) 10]
    show some (Value.int .u32 (o9.m.fid : Int)) = _
    rw [Q9.out]
    rfl
  go_wp2_with fail
  go_ret
  exact ⟨rfl, KF.out.mods⟩
end Go.Proofs.YtlgoeipgmjcboaaGreatDoor
namespace Go.Proofs.YtlgoeipgmjcboaaGreatDoor
open Go.RowKit Me
theorem relaynames_any (w : World) (hT : Lib.Utf8Tabs 4 5 w) (hc : ∃ m : Int, w.cell? ⟨0, 0, none⟩ = some (.int .i64 m)) : Calls Tryz.prog 3 #[] w fun e w' => e = .returned (.bool true) ∧ Mods [] w w' := by
  have HW := Lib.hid (works_any w hT hc)
  clear hT hc
  go_enter Tryz.func3, Tryz.ntmps3
  go_wp2_with fail
  refine HW.out.mono ?_
  rintro e w1 ⟨rfl, hm⟩
  have HM := Lib.hid hm
  clear hm
  go_wp2_with fail
  go_ret
  exact ⟨rfl, HM.out⟩
end Go.Proofs.YtlgoeipgmjcboaaGreatDoor
