/- The steps touch, mode, none. -/
import Derived.Test.YtnpokdbpmnkbjaaGreatDoorCa
import Derived.Test.YtnpokdbpmnkbjaaGreatDoorZd
import Derived.Test.YtnpokdbpmnkbjaaGreatDoorMz
import Derived.Laws.Rows
namespace Go.Proofs.YtnpokdbpmnkbjaaGreatDoor
open Go Go.RowKit Me

namespace Me
/-- The worlds in which what was there in w is as it was. -/
def InC (w w' : World) : Prop := Mods [] w w'
theorem InC.drew (w : World) : InC w w.drew := (Mods.refl [] w).drew
section
variable {P : Program} {ops : Array Oper} {C : World → Prop}
theorem wpQuiet_want {Q : Act → Prop} {a : Act} {o : Oper} {rest : List Oper} (hw : Region.wanted o (yielded ops a.tmps) = true) (h : o.quiet P a C (wpQuiet P ops C Q rest)) : wpQuiet P ops C Q (o :: rest) a := by
  unfold wpQuiet
  rw [if_pos hw]
  exact h
theorem wpQuiet_load_row {Q : Act → Prop} {a : Act} {o : Oper} {rest : List Oper} (hw : Region.wanted o (yielded ops a.tmps) = true) (ty : TypeId) (x : Operand) (ho : o.op = .load ty x)
    (g : Nat) (hx : a.eval x = .pointer (some ⟨g, 0, none⟩)) (t : TypeId) (cs : Array Value) (fr : Nat × Nat) (d : TypeDesc) (hg : ∀ w', C w' → w'.heap[g]? = some (.cells cs t fr))
    (hu : P.underlying ty = some d) (hd : (match d with | .struct _ | .array _ _ => true | _ => false) = true) (hi : (P.info? ty).map (·.size) = some cs.size)
    (h : wpQuiet P ops C Q rest (a.put o.dst (.agg cs))) : wpQuiet P ops C Q (o :: rest) a := by
  refine wpQuiet_want hw ⟨.agg cs, fun w' hw' => ?_, h⟩
  unfold Oper.quietAt execOp
  simp only [ho, hx, Instr.loadAt, Instr.sureAddr, Sem.run_bind, Sem.run_pure, Result.andThen_ok, run_loadVar_row w' g t ty cs fr d (hg w' hw') hu hd hi]
  exact ⟨rfl, rfl⟩
end
end Me
theorem info35s : (Tryz.prog.info? 35).map (·.size) = some 13 := by kernel_rfl
set_option maxRecDepth 100000 in
set_option maxHeartbeats 2000000 in
theorem touch_any (a h : StatP) (w : World) (ha : a.Fits) (hh : h.Fits) : Calls Tryz.prog 14 #[.agg (statV a), .agg (statV h)] w fun e w' => e = .returned (.bool true) ∧ Mods [] w w' := by
  have hk0 := fun W => keep_any W
  generalize hks : keepS = ks at hk0
  have HK := Lib.hid hk0
  have HRK := Lib.hid (fun W => rkeep_any W)
  rw [hks] at HRK
  have HTO := Lib.hid (fun W => touched_any a h W)
  have HRT := Lib.hid (fun W => rtouched_any a h W ha hh)
  have HOV := Lib.hid (fun W => over_any a h W)
  have HRO := Lib.hid (fun W => rover_any a h W)
  generalize touched a h = m at *
  generalize overS a h = os at *
  clear hk0 hks ha hh
  have M0 := Lib.hid (((Mods.refl [] w).alloc (.cells (statV a) 35)).alloc (.cells (statV h) 35))
  have A0 := Lib.hid ((Go.heap_alloc_old (w.alloc (.cells (statV a) 35)) (.cells (statV h) 35) (by simp)).trans (heap_alloc_new w (.cells (statV a) 35)))
  have hb := heap_alloc_new (w.alloc (.cells (statV a) 35)) (.cells (statV h) 35)
  rw [World.size_alloc] at hb
  have B0 := Lib.hid hb
  clear hb
  go_enter Tryz.func14, Tryz.ntmps14
  go_upto_region 1 with fail
  generalize (w.alloc (.cells (statV a) 35)).alloc (.cells (statV h) 35) = w0 at *
  generalize w.heap.size + 1 = bh at *
  generalize w.heap.size = ba at *
  go_wp2_with fail
  refine (HK.out _).mono ?_; rintro e w1 ⟨rfl, hm⟩
  have hstore := run_store_new (P := Tryz.prog) w1 zeroV (statV ks) 35 rfl (statV_one ks)
  unfold zeroV at hstore
  have hm1 := hm.alloc (.cells (statV ks) 35)
  have M1 := Lib.hid (M0.out.trans hm1 (by simp))
  have A1 := Lib.hid (hm1.heap A0.out (by simp))
  have B1 := Lib.hid (hm1.heap B0.out (by simp))
  have K1 := Lib.hid (heap_alloc_new w1 (.cells (statV ks) 35))
  clear hm hm1 M0 A0 B0
  go_upto_region 2 with fail
  clear hstore
  generalize w1.alloc (.cells (statV ks) 35) = w2 at *
  generalize w1.heap.size = bk at *
  go_wp2_with (first | (refine wpList_load_row rfl 35 _ rfl ba rfl 35 (statV a) (0, 0) _ A1.out Tryz.underlying35 rfl info35s ?_) | (refine wpList_load_row rfl 35 _ rfl bh rfl 35 (statV h) (0, 0) _ B1.out Tryz.underlying35 rfl info35s ?_))
  refine (HTO.out _).mono ?_; rintro e w3 ⟨rfl, hm⟩
  have M3 := Lib.hid (M1.out.trans hm (by simp))
  have A3 := Lib.hid (hm.heap A1.out (by simp))
  have B3 := Lib.hid (hm.heap B1.out (by simp))
  have K3 := Lib.hid (hm.heap K1.out (by simp))
  clear hm M1 A1 B1 K1
  go_wp2_with (first | (refine wpList_load_row rfl 35 _ rfl ba rfl 35 (statV a) (0, 0) _ A3.out Tryz.underlying35 rfl info35s ?_) | (refine wpList_load_row rfl 35 _ rfl bh rfl 35 (statV h) (0, 0) _ B3.out Tryz.underlying35 rfl info35s ?_))
  refine (HOV.out _).mono ?_; rintro e w4 ⟨rfl, hm⟩
  have hstore := run_store_new (P := Tryz.prog) w4 zeroV (statV os) 35 rfl (statV_one os)
  unfold zeroV at hstore
  have hm1 := hm.alloc (.cells (statV os) 35)
  have M5 := Lib.hid (M3.out.trans hm1 (by simp))
  have A5 := Lib.hid (hm1.heap A3.out (by simp))
  have B5 := Lib.hid (hm1.heap B3.out (by simp))
  have K5 := Lib.hid (hm1.heap K3.out (by simp))
  have O5 := Lib.hid (heap_alloc_new w4 (.cells (statV os) 35))
  clear hm hm1 M3 A3 B3 K3
  go_upto_region 4 with fail
  clear hstore
  generalize w4.alloc (.cells (statV os) 35) = w5 at *
  generalize w4.heap.size = bo at *
  refine wp_region_quiet (C := InC w5) (by kernel_rfl) (by kernel_rfl) (InC.drew w5) ?_
  dsimp only [List.toList_toArray]
  refine wpQuiet_load_row rfl 35 _ rfl bk rfl 35 (statV ks) (0, 0) _ (fun w' hw' => hw'.heap K5.out (by simp)) Tryz.underlying35 rfl info35s ?_
  refine wpQuiet_step (fun K hK => ?_)
  go_simp
  refine ⟨_, fun w' hw' => (HRK.out w').mono fun _ _ hh => ⟨hh.1, Mods.trans hw' hh.2 (by simp)⟩, hK _ ?_⟩
  clear hK K
  simp only [statV]
  refine wpQuiet_step (fun K hK => ?_)
  go_simp
  refine ⟨_, fun _ _ => rfl, hK _ ?_⟩
  clear hK K
  refine wpQuiet_step (fun K hK => ?_)
  go_simp
  refine ⟨_, fun _ _ => rfl, hK _ ?_⟩
  clear hK K
  refine wpQuiet_step (fun K hK => ?_)
  go_simp
  refine ⟨_, fun _ _ => rfl, hK _ ?_⟩
  clear hK K
  refine wpQuiet_load_row (by go_simp) 35 _ rfl ba rfl 35 (statV a) (0, 0) _ (fun w' hw' => hw'.heap A5.out (by simp)) Tryz.underlying35 rfl info35s ?_
  refine wpQuiet_load_row (by go_simp) 35 _ rfl bh rfl 35 (statV h) (0, 0) _ (fun w' hw' => hw'.heap B5.out (by simp)) Tryz.underlying35 rfl info35s ?_
  refine wpQuiet_step (fun K hK => ?_)
  go_simp
  refine ⟨_, fun w' hw' => (HRT.out w').mono fun _ _ hh => ⟨hh.1, Mods.trans hw' hh.2 (by simp)⟩, hK _ ?_⟩
  clear hK K
  refine wpQuiet_step (fun K hK => ?_)
  go_simp
  refine ⟨_, fun _ _ => rfl, hK _ ?_⟩
  clear hK K
  refine wpQuiet_step (fun K hK => ?_)
  go_simp
  refine ⟨_, fun _ _ => rfl, hK _ ?_⟩
  clear hK K
  refine wpQuiet_step (fun K hK => ?_)
  go_simp
  refine ⟨_, fun _ _ => rfl, hK _ ?_⟩
  clear hK K
  refine wpQuiet_load_row (by go_simp) 35 _ rfl bo rfl 35 (statV os) (0, 0) _ (fun w' hw' => hw'.heap O5.out (by simp)) Tryz.underlying35 rfl info35s ?_
  refine wpQuiet_load_row (by go_simp) 35 _ rfl ba rfl 35 (statV a) (0, 0) _ (fun w' hw' => hw'.heap A5.out (by simp)) Tryz.underlying35 rfl info35s ?_
  refine wpQuiet_load_row (by go_simp) 35 _ rfl bh rfl 35 (statV h) (0, 0) _ (fun w' hw' => hw'.heap B5.out (by simp)) Tryz.underlying35 rfl info35s ?_
  refine wpQuiet_step (fun K hK => ?_)
  go_simp
  refine ⟨_, fun w' hw' => (HRO.out w').mono fun _ _ hh => ⟨hh.1, Mods.trans hw' hh.2 (by simp)⟩, hK _ ?_⟩
  clear hK K
  simp only [statV]
  refine wpQuiet_step (fun K hK => ?_)
  go_simp
  refine ⟨_, fun _ _ => rfl, hK _ ?_⟩
  clear hK K
  refine wpQuiet_step (fun K hK => ?_)
  go_simp
  refine ⟨_, fun _ _ => rfl, hK _ ?_⟩
  clear hK K
  refine wpQuiet_step (fun K hK => ?_)
  go_simp
  refine ⟨_, fun _ _ => rfl, hK _ ?_⟩
  clear hK K
  refine wpQuiet_nil ?_
  intro w6 hw6
  have M6 := Lib.hid (M5.out.trans hw6 (by simp))
  go_wp2_with fail
  go_ret
  exact ⟨rfl, M6.out⟩
def RelMo (w : World) (i : Value) (wr : World) : Prop := ∃ k : Nat, k ≤ 2 ∧ i = .int .i64 (k : Int) ∧ Mods [] w wr
set_option maxRecDepth 100000 in
set_option maxHeartbeats 1000000 in
theorem kmode_any (n : Nat) (s : ByteArray) (w : World) (hn : n < 4294967296) (hs : s.size ≤ 268435456) : Calls Tryz.prog 15 #[.int .u32 (n : Int), .string s] w fun e w' => e = .returned (.bool true) ∧ Mods [] w w' := by
  have HMP := Lib.hid (fun W => Mo.mode_any n hn W)
  have HMR := Lib.hid (fun W => rmode_any n hn W)
  have hml : (Mo.Pl.modeL n).length ≤ 22 := (Mo.Pl.modeL_length n).2
  have hsz : (⟨(Mo.Pl.modeL n).toArray⟩ : ByteArray).size ≤ 268435456 := by
    show (Mo.Pl.modeL n).toArray.size ≤ _
    simp
    omega
  have HP : Hid (∀ (t : ByteArray) W, t.size ≤ 268435456 → Calls Tryz.prog 46 #[.string t] W fun e w' => e = .returned (.tuple #[.int .u32 ((Mo.Pl.parse t.data.toList).1 : Int), .int .i64 ((Mo.Pl.parse t.data.toList).2 : Int)]) ∧ Mods [] W w') :=
    Lib.hid (fun t W ht => (Mo.parse_any t W (by unfold maxLen; omega)).mono fun _ _ hh => ⟨hh.1, Mods.below hh.2 _⟩)
  have HR : Hid (∀ (t : ByteArray) W, t.size ≤ 268435456 → Calls Tryz.prog 47 #[.string t] W fun e w' => e = .returned (.tuple #[.int .u32 ((Mo.Pl.parse t.data.toList).1 : Int), .int .i64 ((Mo.Pl.parse t.data.toList).2 : Int)]) ∧ Mods [] W w') :=
    Lib.hid (fun t W ht => rparse_any t W (by unfold maxLen; omega))
  clear hml
  generalize (⟨(Mo.Pl.modeL n).toArray⟩ : ByteArray) = m at *
  go_enter Tryz.func15, Tryz.ntmps15
  go_wp2_with fail
  refine (HMP.out _).mono ?_; rintro e w1 ⟨rfl, hm⟩
  have M1 := Lib.hid (Mods.below hm [])
  clear hm
  go_wp2_with fail
  refine (HMR.out _).mono ?_; rintro e w2 ⟨rfl, hm⟩
  have hm2 := (M1.out.trans hm (by simp)).alloc (.cells #[.string m, .string s] 9)
  have M2 := Lib.hid hm2
  have B2 := Lib.hid (heap_alloc_new w2 (.cells #[.string m, .string s] 9))
  have q1 : (!m.toList == m.toList) = false := by simp
  clear hm hm2
  go_upto_region 5 with fail
  clear q1
  generalize w2.alloc (.cells #[.string m, .string s] 9) = w3 at *
  generalize w2.heap.size = bl at *
  go_wp2_with fail
  go_loopw [7] (fun i wr => RelMo w3 i wr) (fun i _ => 2 - (intOf i).toNat)
  case atStart => exact ⟨0, by omega, rfl, Mods.refl _ _⟩
  case round =>
    obtain ⟨k, hk, rfl, hm⟩ := hrel
    have MR := Lib.hid hm
    have hb := hm.heap B2.out (by simp)
    have HBR := Lib.hid hb
    rcases Nat.lt_or_ge k 2 with hlt | hge
    · obtain ⟨t, ht, hts⟩ : ∃ t : ByteArray, (#[.string m, .string s] : Array Value)[k]? = some (.string t) ∧ t.size ≤ 268435456 := by
        rcases (show k = 0 ∨ k = 1 by omega) with rfl | rfl
        · exact ⟨m, rfl, hsz⟩
        · exact ⟨s, rfl, hs⟩
      have HT := Lib.hid ht
      have c0 : wr.cell? ⟨bl, k, none⟩ = some (.string t) := by rw [cell_of_row _ _ _ _ _ _ hb]; exact ht
      have HPt := Lib.hid (fun W => HP.out t W hts)
      have HRt := Lib.hid (fun W => HR.out t W hts)
      generalize (Mo.Pl.parse t.data.toList).1 = x at *
      generalize (Mo.Pl.parse t.data.toList).2 = y at *
      clear hm hb
      go_wp2_with fail
      refine (HPt.out _).mono ?_; rintro e w4 ⟨rfl, hm4⟩
      have c1 : w4.cell? ⟨bl, k, none⟩ = some (.string t) := by rw [cell_of_row _ _ _ _ _ _ (hm4.heap HBR.out (by simp))]; exact HT.out
      have M4 := Lib.hid (MR.out.trans hm4 (by simp))
      clear hm4 c0
      go_wp2_with fail
      refine (HRt.out _).mono ?_; rintro e w5 ⟨rfl, hm5⟩
      have q1 := nat_ne_self x
      have q2 := nat_ne_self y
      have HN : Hid (RelMo w3 (.int .i64 ((k : Int) + 1)) w5) := Lib.hid ⟨k + 1, by omega, rfl, M4.out.trans hm5 (by simp)⟩
      clear hm5 c1
      go_wp2_with fail
      exact ⟨HN.out, by simp only [intOf]; omega⟩
    · obtain rfl : k = 2 := by omega
      clear hm hb
      go_wp2_with fail
      go_ret
      exact ⟨rfl, M2.out.trans MR.out (by simp)⟩
theorem put_nil (s : StatP) (w : World) : Calls Tryz.prog 52 #[.pointer none, .agg (statV s)] w fun e w' => e = .returned (.tuple #[]) ∧ Mods [] w w' := by
  go_enter Tryz.func52, Tryz.ntmps52
  go_wp2_with fail
  refine bodyPost_ret (v := .tuple #[]) (by simp [results, Tryz.results52, go_sem]) rfl ⟨rfl, (Mods.refl _ _).alloc _⟩
theorem putQid_nil (q : QidP) (w : World) : Calls Tryz.prog 54 #[.pointer none, .agg (qidV q)] w fun e w' => e = .returned (.tuple #[]) ∧ Mods [] w w' := by
  go_enter Tryz.func54, Tryz.ntmps54
  go_wp2_with fail
  refine bodyPost_ret (v := .tuple #[]) (by simp [results, Tryz.results54, go_sem]) rfl ⟨rfl, (Mods.refl _ _).alloc _⟩
theorem take_nil (w : World) : Calls Tryz.prog 62 #[.pointer none] w fun e w' => e = .returned (.agg (statV StatP.zero)) ∧ Mods [] w w' := by
  go_enter Tryz.func62, Tryz.ntmps62
  go_wp2_with fail
  refine bodyPost_ret (v := .agg #[.int .u16 0, .int .u32 0, .int .u8 0, .int .u32 0, .int .u64 0, .int .u32 0, .int .u32 0, .int .u32 0, .int .u64 0, .string ⟨#[]⟩, .string ⟨#[]⟩, .string ⟨#[]⟩, .string ⟨#[]⟩]) (by simp [results, Tryz.results62, go_sem]) rfl ⟨rfl, (Mods.refl _ _).alloc _⟩
theorem takeQid_nil (w : World) : Calls Tryz.prog 66 #[.pointer none] w fun e w' => e = .returned (.agg (qidV QidP.zero)) ∧ Mods [] w w' := by
  go_enter Tryz.func66, Tryz.ntmps66
  go_wp2_with fail
  refine bodyPost_ret (v := .agg #[.int .u8 0, .int .u32 0, .int .u64 0]) (by simp [results, Tryz.results66, go_sem]) rfl ⟨rfl, (Mods.refl _ _).alloc _⟩
set_option maxRecDepth 100000 in
set_option maxHeartbeats 1000000 in
theorem knone_any (s : StatP) (w : World) : Calls Tryz.prog 18 #[.agg (statV s)] w fun e w' => e = .returned (.bool true) ∧ Mods [] w w' := by
  have M0 := Lib.hid ((Mods.refl [] w).alloc (.cells (statV s) 35))
  have B0 := Lib.hid (heap_alloc_new w (.cells (statV s) 35))
  go_enter Tryz.func18, Tryz.ntmps18
  go_upto_region 1 with fail
  generalize w.alloc (.cells (statV s) 35) = w0 at *
  generalize w.heap.size = bs at *
  obtain ⟨c0, c1, c2, c3, c4, c5, c6, c7, c8, c9, c10, c11, c12⟩ := stat_cells B0.out
  go_wp2_with fail
  clear c0 c1 c2 c3 c4 c5 c6 c7 c8 c9 c10 c11 c12
  refine (put_nil s _).mono ?_; rintro e w1 ⟨rfl, hm⟩
  have M1 := Lib.hid (M0.out.trans hm (by simp))
  obtain ⟨c0, c1, c2, c3, c4, c5, c6, c7, c8, c9, c10, c11, c12⟩ := stat_cells (hm.heap B0.out (by simp))
  clear hm M0 B0
  go_wp2_with fail
  clear c0 c1 c2 c3 c4 c5 c6 c7 c8 c9 c10 c11 c12
  refine (putQid_nil s.qid _).mono ?_; rintro e w2 ⟨rfl, hm⟩
  have M2 := Lib.hid (M1.out.trans hm (by simp))
  clear hm M1
  go_wp2_with fail
  refine (take_nil _).mono ?_; rintro e w3 ⟨rfl, hm⟩
  have hstore := run_store_new (P := Tryz.prog) w3 zeroV (statV StatP.zero) 35 rfl (statV_one _)
  unfold zeroV at hstore
  have hm1 := hm.alloc (.cells (statV StatP.zero) 35)
  have M3 := Lib.hid (M2.out.trans hm1 (by simp))
  have B3 := Lib.hid (heap_alloc_new w3 (.cells (statV StatP.zero) 35))
  clear hm hm1 M2
  go_upto_region 4 with fail
  clear hstore
  generalize w3.alloc (.cells (statV StatP.zero) 35) = w4 at *
  generalize w3.heap.size = b3 at *
  go_wp2_with fail
  refine (takeQid_nil _).mono ?_; rintro e w5 ⟨rfl, hm⟩
  have hm1 := (hm.alloc (.cells #[.int .u8 0, .int .u32 0, .int .u64 0] 32))
  have M5 := Lib.hid (M3.out.trans hm1 (by simp))
  have B5 := Lib.hid (hm1.heap B3.out (by simp))
  have Q5 := Lib.hid (heap_alloc_new w5 (.cells #[.int .u8 0, .int .u32 0, .int .u64 0] 32))
  clear hm hm1 M3 B3
  unfold qidV QidP.zero
  go_upto_region 5 with fail
  generalize hw6 : w5.alloc (.cells #[.int .u8 0, .int .u32 0, .int .u64 0] 32) = w6 at *
  generalize hb5 : w5.heap.size = b5 at *
  clear hw6 hb5
  have hm1 := (Mods.refl [] w6).alloc (.cells #[.int .u16 0, .int .u32 0, .int .u8 0, .int .u32 0, .int .u64 0, .int .u32 0, .int .u32 0, .int .u32 0, .int .u64 0, .string ⟨#[]⟩, .string ⟨#[]⟩, .string ⟨#[]⟩, .string ⟨#[]⟩] 35)
  have M7 := Lib.hid (M5.out.trans hm1 (by simp))
  have B7 := Lib.hid (hm1.heap B5.out (by simp))
  have Q7 := Lib.hid (hm1.heap Q5.out (by simp))
  have Z7 := Lib.hid (heap_alloc_new w6 (.cells #[.int .u16 0, .int .u32 0, .int .u8 0, .int .u32 0, .int .u64 0, .int .u32 0, .int .u32 0, .int .u32 0, .int .u64 0, .string ⟨#[]⟩, .string ⟨#[]⟩, .string ⟨#[]⟩, .string ⟨#[]⟩] 35))
  clear hm1 M5 B5 Q5
  go_upto_region 6 with fail
  generalize w6.alloc (.cells #[.int .u16 0, .int .u32 0, .int .u8 0, .int .u32 0, .int .u64 0, .int .u32 0, .int .u32 0, .int .u32 0, .int .u64 0, .string ⟨#[]⟩, .string ⟨#[]⟩, .string ⟨#[]⟩, .string ⟨#[]⟩] 35) = w7 at *
  generalize w6.heap.size = b7 at *
  have c0 : w7.cell? ⟨b3, 0, none⟩ = some (.int .u16 0) := (cell_of_row _ _ _ _ _ _ B7.out).trans rfl
  have d0 : w7.cell? ⟨b7, 0, none⟩ = some (.int .u16 0) := (cell_of_row _ _ _ _ _ _ Z7.out).trans rfl
  have c1 : w7.cell? ⟨b3, 1, none⟩ = some (.int .u32 0) := (cell_of_row _ _ _ _ _ _ B7.out).trans rfl
  have d1 : w7.cell? ⟨b7, 1, none⟩ = some (.int .u32 0) := (cell_of_row _ _ _ _ _ _ Z7.out).trans rfl
  have c2 : w7.cell? ⟨b3, 2, none⟩ = some (.int .u8 0) := (cell_of_row _ _ _ _ _ _ B7.out).trans rfl
  have d2 : w7.cell? ⟨b7, 2, none⟩ = some (.int .u8 0) := (cell_of_row _ _ _ _ _ _ Z7.out).trans rfl
  have c3 : w7.cell? ⟨b3, 3, none⟩ = some (.int .u32 0) := (cell_of_row _ _ _ _ _ _ B7.out).trans rfl
  have d3 : w7.cell? ⟨b7, 3, none⟩ = some (.int .u32 0) := (cell_of_row _ _ _ _ _ _ Z7.out).trans rfl
  have c4 : w7.cell? ⟨b3, 4, none⟩ = some (.int .u64 0) := (cell_of_row _ _ _ _ _ _ B7.out).trans rfl
  have d4 : w7.cell? ⟨b7, 4, none⟩ = some (.int .u64 0) := (cell_of_row _ _ _ _ _ _ Z7.out).trans rfl
  have c5 : w7.cell? ⟨b3, 5, none⟩ = some (.int .u32 0) := (cell_of_row _ _ _ _ _ _ B7.out).trans rfl
  have d5 : w7.cell? ⟨b7, 5, none⟩ = some (.int .u32 0) := (cell_of_row _ _ _ _ _ _ Z7.out).trans rfl
  have c6 : w7.cell? ⟨b3, 6, none⟩ = some (.int .u32 0) := (cell_of_row _ _ _ _ _ _ B7.out).trans rfl
  have d6 : w7.cell? ⟨b7, 6, none⟩ = some (.int .u32 0) := (cell_of_row _ _ _ _ _ _ Z7.out).trans rfl
  have c7 : w7.cell? ⟨b3, 7, none⟩ = some (.int .u32 0) := (cell_of_row _ _ _ _ _ _ B7.out).trans rfl
  have d7 : w7.cell? ⟨b7, 7, none⟩ = some (.int .u32 0) := (cell_of_row _ _ _ _ _ _ Z7.out).trans rfl
  have c8 : w7.cell? ⟨b3, 8, none⟩ = some (.int .u64 0) := (cell_of_row _ _ _ _ _ _ B7.out).trans rfl
  have d8 : w7.cell? ⟨b7, 8, none⟩ = some (.int .u64 0) := (cell_of_row _ _ _ _ _ _ Z7.out).trans rfl
  have c9 : w7.cell? ⟨b3, 9, none⟩ = some (.string ⟨#[]⟩) := (cell_of_row _ _ _ _ _ _ B7.out).trans rfl
  have d9 : w7.cell? ⟨b7, 9, none⟩ = some (.string ⟨#[]⟩) := (cell_of_row _ _ _ _ _ _ Z7.out).trans rfl
  have c10 : w7.cell? ⟨b3, 10, none⟩ = some (.string ⟨#[]⟩) := (cell_of_row _ _ _ _ _ _ B7.out).trans rfl
  have d10 : w7.cell? ⟨b7, 10, none⟩ = some (.string ⟨#[]⟩) := (cell_of_row _ _ _ _ _ _ Z7.out).trans rfl
  have c11 : w7.cell? ⟨b3, 11, none⟩ = some (.string ⟨#[]⟩) := (cell_of_row _ _ _ _ _ _ B7.out).trans rfl
  have d11 : w7.cell? ⟨b7, 11, none⟩ = some (.string ⟨#[]⟩) := (cell_of_row _ _ _ _ _ _ Z7.out).trans rfl
  have c12 : w7.cell? ⟨b3, 12, none⟩ = some (.string ⟨#[]⟩) := (cell_of_row _ _ _ _ _ _ B7.out).trans rfl
  have d12 : w7.cell? ⟨b7, 12, none⟩ = some (.string ⟨#[]⟩) := (cell_of_row _ _ _ _ _ _ Z7.out).trans rfl
  have e0 : w7.cell? ⟨b5, 0, none⟩ = some (.int .u8 0) := (cell_of_row _ _ _ _ _ _ Q7.out).trans rfl
  have e1 : w7.cell? ⟨b5, 1, none⟩ = some (.int .u32 0) := (cell_of_row _ _ _ _ _ _ Q7.out).trans rfl
  have e2 : w7.cell? ⟨b5, 2, none⟩ = some (.int .u64 0) := (cell_of_row _ _ _ _ _ _ Q7.out).trans rfl
  go_wp2_with fail
  go_ret
  exact ⟨rfl, M7.out⟩
end Go.Proofs.YtnpokdbpmnkbjaaGreatDoor
