/- prune, flush$1, comes$1: what stays of the other blocks. (Printed by wip/bin/genkf.py.) | Back: what is wanted of its parts. -/
import Derived.Test.YtlgoeipgmjcboaaGreatDoorKe
import Derived.Test.YtlgoeipgmjcboaaGreatDoorJn
namespace Go.Proofs.YtlgoeipgmjcboaaGreatDoor
open Go.RowKit Me
section
variable {w w' : World} {r : Nat} {R : RelP} {U : Nat → Nat} {G : Gh} {vo : Value}
theorem KeepC.off {T : TypeId} {F X : List Nat} (hm : Mods X w w') (hX : ∀ k ∈ F, k ∉ X) : KeepC T F w w' :=
  ⟨hm.size, fun b _ _ _ hb _ e => hm.heap e (hX b hb)⟩
theorem keep_still {T : TypeId} {F : List Nat} (hm : Mods [] w w') : KeepC T F w w' := KeepC.off hm (by simp)
set_option maxHeartbeats 2000000 in
theorem prune2_any (h : IsRel w r R U G vo) (hU : ∀ l ∈ R.links, U l.id = R.used l.id) : Calls Tryz.prog 44 #[.pointer (some ⟨r, 0, none⟩)] w fun e w' => e = .returned (.tuple #[]) ∧ IsRel w' r R.prune U G vo ∧ Mods G.F w w' ∧ KeepC 148 G.F w w' := by
  have c4 : w.cell? ⟨r, 4, none⟩ = some (.map (some G.mb)) := h.cell 4
  have HM : Hid (PMap KP w G.mb (linkM R G)) := Lib.hid h.links
  have H := Lib.hid h
  have HU := Lib.hid hU
  have HW := Lib.hid h.wf
  have hlt := fun k hk => h.lt k hk
  have HLT := Lib.hid hlt
  clear h hU hlt
  go_enter Tryz.func44, Tryz.ntmps44
  go_wp2_with (at_range; refine wpList_range_pm _ rfl _ 77 rfl 146 Tryz.underlying77 G.mb (linkM R G) rfl HM.out ?_; intro wI hR hmI hsI; have HR := Lib.hid hR; have HMI := Lib.hid hmI; clear hR hmI hsI; go_frame)
  generalize hit : w.heap.size = it at *
  go_loopw [3] (fun _ wr => ∃ T, PRange KP wr G.mb it (linkM (R.only (stillL R T)) G) T ∧ IsRel wr r (R.only (stillL R T)) U G vo ∧ Mods G.F w wr ∧ KeepC 148 G.F w wr) (fun _ wr => wr.rangeLeft G.mb it)
  case atStart =>
    have e : R.only (stillL R (linkM R G)) = R := only_all (fun l hl => by
      unfold stillL
      rw [Bool.or_eq_true]
      exact Or.inr (List.any_eq_true.2 ⟨_, List.mem_map.2 ⟨l, hl, rfl⟩, by simp⟩))
    exact ⟨_, by rw [e]; exact HR.out, by rw [e]; exact H.out.still HMI.out, HMI.out.mono (by simp), keep_still HMI.out⟩
  case round =>
    obtain ⟨T, hT, hr, hm, hkc⟩ := hrel
    have HKC := Lib.hid hkc
    clear hkc
    have HTT := Lib.hid hT
    have HRR := Lib.hid hr
    have HMR := Lib.hid hm
    clear hT hr hm
    go_wp2_with (at_next; refine wpList_next_pm _ rfl _ rfl G.mb it (linkM (R.only (stillL R T)) G) _ rfl HTT.out ?_ ?_)
    · intro hT0
      have e : R.only (stillL R T) = R.prune := only_congr (fun l _ => by rw [hT0]; simp [stillL, keepL])
      have hrr := HRR.out
      rw [e] at hrr
      have HE := Lib.hid hrr
      clear hrr e
      go_wp2_with fail
      go_end0
      exact ⟨rfl, HE.out, HMR.out, HKC.out⟩
    · intro x1 x2 c w2 hx hxT hxM hR2 hm2 hs2 hl2 hen
      have hR2 : PRange KP w2 G.mb it (linkM (R.only (stillL R T)) G) (T.filter fun e => decide (e.1 ≠ (x1, x2))) := by simpa using hR2
      obtain ⟨l, hl, e⟩ := List.mem_map.1 hxM
      simp only [Prod.mk.injEq] at e
      obtain ⟨⟨rfl, rfl⟩, rfl⟩ := e
      have hlR : l ∈ R.links := (List.mem_filter.1 hl).1
      have hen' : (Instr.entry (.pointer (some ⟨it, 0, none⟩))).run Tryz.prog w2 = .ok (.tuple #[.agg #[.int .i64 (l.client : Int), .int .u32 (l.fid : Int)], .pointer (some ⟨G.lb l.id, 0, none⟩)]) w2 := hen
      have hni : ∀ k ∈ G.F, k ∉ [it] := fun k hk hk' => by
        simp at hk'
        have := HLT.out k hk
        omega
      have hrel2 := HRR.out.mods hm2 hni
      have hmA := (Mods.refl [] w2).alloc (.cells #[.int .i64 (l.client : Int), .int .u32 (l.fid : Int)] 92)
      have hrelA := hrel2.still hmA
      have k1 := link_cell hrelA hl 1
      have k2 := link_cell hrelA hl 2
      have k4 := hrelA.cell 4
      simp only [List.getElem?_toArray, List.getElem?_cons_zero, List.getElem?_cons_succ] at k1 k2 k4
      have HRA := Lib.hid hrelA
      have HLP := Lib.hid hrel2.lt
      have HRP := Lib.hid (heap_alloc_new w2 (.cells #[.int .i64 (l.client : Int), .int .u32 (l.fid : Int)] 92))
      have hRA := hR2.mods hmA (by simp) (by simp)
      have hLA := hR2.left hmA (by simp) (by simp)
      have HPA := Lib.hid hRA
      have HLA : Hid ((w2.alloc (.cells #[.int .i64 (l.client : Int), .int .u32 (l.fid : Int)] 92)).rangeLeft G.mb it < wr.rangeLeft G.mb it) := Lib.hid (by rw [hLA]; exact hl2)
      have HMA := Lib.hid ((HMR.out.trans hm2 (fun b hb => Or.inr (by simp at hb; omega))).trans hmA (by simp))
      have HKA := Lib.hid ((HKC.out.trans (KeepC.off hm2 hni)).trans (keep_still (T := 148) (F := G.F) hmA))
      have HLR := Lib.hid hlR
      have HUL := Lib.hid (HU.out l hlR)
      have HIN := Lib.hid hxM
      have hnw : it ∉ G.F := fun hk' => by
        have := HLT.out it hk'
        omega
      have HNW := Lib.hid hnw
      clear hen hm2 hs2 hR2 hl2 hxT hxM hl hni hrel2 hmA hrelA hRA hLA hnw hlR
      by_cases hk : keepL R l = true
      · have HEQ : Hid (R.only (stillL R T) = R.only (stillL R (T.filter fun e => decide (e.1 ≠ ((l.client : Int), l.fid))))) := Lib.hid (only_congr (fun k hk' => by
          by_cases e : k = l
          · subst e
            unfold stillL
            rw [hk]
            rfl
          · exact (still_strike HW.out HLR.out hk' e).symm))
        have HFIN : Hid (∃ T', PRange KP (w2.alloc (.cells #[.int .i64 (l.client : Int), .int .u32 (l.fid : Int)] 92)) G.mb it (linkM (R.only (stillL R T')) G) T' ∧ IsRel (w2.alloc (.cells #[.int .i64 (l.client : Int), .int .u32 (l.fid : Int)] 92)) r (R.only (stillL R T')) U G vo ∧ Mods G.F w (w2.alloc (.cells #[.int .i64 (l.client : Int), .int .u32 (l.fid : Int)] 92)) ∧ KeepC 148 G.F w (w2.alloc (.cells #[.int .i64 (l.client : Int), .int .u32 (l.fid : Int)] 92))) :=
          Lib.hid ⟨_, HEQ.out ▸ HPA.out, HEQ.out ▸ HRA.out, HMA.out, HKA.out⟩
        cases er : l.real
        · rw [er] at k1
          have hb : ((U l.id : Int) == 0) = false := by
            unfold keepL at hk
            rw [er, ← HUL.out] at hk
            simpa using hk
          go_wp2_with fail
          exact ⟨HFIN.out, HLA.out⟩
        · rw [er] at k1
          go_wp2_with fail
          exact ⟨HFIN.out, HLA.out⟩
      · have hkf : keepL R l = false := by simpa using hk
        have er : l.real = false := by
          unfold keepL at hkf
          rw [Bool.or_eq_false_iff] at hkf
          exact hkf.1
        have hb : U l.id = 0 := by
          unfold keepL at hkf
          rw [Bool.or_eq_false_iff, ← HUL.out] at hkf
          simpa using hkf.2
        rw [er] at k1
        rw [hb] at k2
        have HKF := Lib.hid hkf
        clear hk hkf er hb
        go_wp2_with fail
        generalize w2.alloc (.cells #[.int .i64 (l.client : Int), .int .u32 (l.fid : Int)] 92) = wA at *
        generalize w2.heap.size = pb at *
        have hd : Mods [] wA wA.drew := (Mods.refl [] wA).drew
        have k4d : wA.drew.cell? ⟨r, 4, none⟩ = some (.map (some G.mb)) := k4
        have p0 : wA.drew.cell? ⟨pb, 0, none⟩ = some (.int .i64 (l.client : Int)) := by rw [cell_of_row _ _ _ _ _ _ (hd.heap HRP.out (by simp))]; rfl
        have p1 : wA.drew.cell? ⟨pb, 1, none⟩ = some (.int .u32 (l.fid : Int)) := by rw [cell_of_row _ _ _ _ _ _ (hd.heap HRP.out (by simp))]; rfl
        have hpd := HPA.out.mods hd (by simp) (by simp)
        have HPD := Lib.hid hpd
        have hld := HPA.out.left hd (by simp) (by simp)
        have HLD := Lib.hid hld
        have HPN : Hid (pb ≠ G.mb) := Lib.hid (fun e => by
          have := HLP.out _ HRA.out.here.2.2.1
          omega)
        obtain ⟨_, ⟨mes, mcl, hmp, _⟩, _⟩ := HRA.out.links
        have HMP := Lib.hid (hd.heap hmp (by simp))
        clear hd k4 k1 k2 hpd hld hmp
        go_region_held3 (fun W => W.cell? ⟨r, 4, none⟩ = some (.map (some G.mb)) ∧ W.cell? ⟨pb, 0, none⟩ = some (.int .i64 (l.client : Int)) ∧ W.cell? ⟨pb, 1, none⟩ = some (.int .u32 (l.fid : Int))) (go_keep) (first | (refine step_del_range _ rfl _ _ 77 rfl 146 Tryz.underlying77 G.mb it (linkM (R.only (stillL R T)) G) _ rfl HPD.out ((l.client : Int), l.fid) rfl (G.lb l.id) HIN.out ?_; intro w3 hR3 hm3 hs3 hl3; rw [filter_twice, linkM_strike HW.out HLR.out HKF.out] at hR3; have hrel3 := (HRA.out.still (Mods.refl [] wA).drew).only (stillL R (T.filter fun e => decide (e.1 ≠ ((l.client : Int), l.fid)))) (fun q hq i hi k hk e => by unfold stillL; rw [keepL_used (R := R) hq hi k e]; rfl) hm3 (by rw [only_only (still_less HW.out)]; exact hR3.pmap); rw [only_only (still_less HW.out)] at hrel3; have HR3 := Lib.hid hR3; have HREL3 := Lib.hid hrel3; have HM3 := Lib.hid hm3; have HL3 := Lib.hid hl3; have k4' : w3.cell? ⟨r, 4, none⟩ = some (.map (some G.mb)) := hrel3.cell 4; have hrow3 := hm3.heap ((Mods.refl [] wA).drew.heap HRP.out (by simp)) (by simpa using HPN.out); have p0' : w3.cell? ⟨pb, 0, none⟩ = some (.int .i64 (l.client : Int)) := (by rw [cell_of_row _ _ _ _ _ _ hrow3]; rfl); have p1' : w3.cell? ⟨pb, 1, none⟩ = some (.int .u32 (l.fid : Int)) := (by rw [cell_of_row _ _ _ _ _ _ hrow3]; rfl); clear hR3 hm3 hs3 hl3 hrel3 hrow3; go_simp))
        go_wp2_with fail
        refine ⟨⟨_, HR3.out, HREL3.out, (HMA.out.trans (Mods.refl [] wA).drew (by simp)).trans HM3.out (fun b hb => Or.inl (by simp at hb; subst hb; exact HRA.out.here.2.2.1)), (HKA.out.trans (keep_still (Mods.refl [] wA).drew)).trans (KeepC.map HMP.out HM3.out)⟩, ?_⟩
        have h1 := HL3.out
        have h2 := HLD.out
        have h3 := HLA.out
        omega
set_option maxRecDepth 100000 in
set_option maxHeartbeats 2000000 in
theorem flush2_any (h : IsRel w r R R.used G vo) {names c1 c2 : Nat} (hf : Flush w r G R names c1 c2) (m : MsgP) (vn vq vd : Value) :
    Calls Tryz.prog 82 #[.agg (msgC m vn vq vd).toArray, .pointer (some ⟨c1, 0, none⟩), .pointer (some ⟨c2, 0, none⟩)] w fun e w' => e = .returned (.tuple #[]) ∧
      IsRel w' r (if m.kind = 109 then R.without names else R) (if m.kind = 109 then R.without names else R).used G vo ∧ Mods G.F w w' ∧ KeepC 148 G.F w w' := by
  have hmA := ((Mods.refl [] w).alloc (.cells (msgC m vn vq vd).toArray 47)).drew
  have hrow : (w.alloc (.cells (msgC m vn vq vd).toArray 47)).drew.heap[w.heap.size]? = some (.cells (msgC m vn vq vd).toArray 47 (0, 0)) := heap_alloc_new _ _
  have hrelA := h.still hmA
  have hfA := hf.still hmA
  generalize hmc : msgC m vn vq vd = mc at *
  generalize hw1 : w.alloc (.cells mc.toArray 47) = w1 at *
  have m0 : w1.drew.cell? ⟨w.heap.size, 0, none⟩ = some (.int .u8 (m.kind : Int)) := by rw [cell_of_row _ _ _ _ _ _ hrow, ← hmc]; rfl
  obtain ⟨cs, t, ht1, ht2, ht3, ht4⟩ := hfA.tag
  have d1 : w1.drew.cell? ⟨c1, 0, none⟩ = some (.pointer (some ⟨r, 0, none⟩)) := by rw [cell_of_row _ _ _ _ _ _ hfA.rel]; rfl
  have d2 : w1.drew.cell? ⟨c2, 0, none⟩ = some (.pointer (some ⟨G.rb names, 0, none⟩)) := by rw [cell_of_row _ _ _ _ _ _ hfA.named]; rfl
  have d3 : w1.drew.cell? ⟨G.rb names, 1, none⟩ = some (.int .u16 (t : Int)) := by rw [cell_of_row _ _ _ _ _ _ ht1]; exact ht2
  have c5 : w1.drew.cell? ⟨r, 5, none⟩ = some (.map (some G.ub)) := hrelA.cell 5
  have hlk := hrelA.under.look Tryz.underlying78 (zero109 w1.drew) t ht3
  change (Instr.lookup 78 (.map (some G.ub)) (.int .u16 (t : Int)) false).run Tryz.prog w1.drew = .ok (ptV (Me.look (reqM R G) t)) w1.drew at hlk
  rw [req_look] at hlk
  have HREL := Lib.hid hrelA
  have HMA := Lib.hid hmA
  have HKA := Lib.hid (keep_still (T := 148) (F := G.F) hmA)
  have HT := Lib.hid ht4
  have HT1 := Lib.hid ht1
  have HAP := Lib.hid hf.apart
  clear h hrow hmA hrelA hfA hmc ht1 ht2 ht4 hf
  by_cases k1 : m.kind = 109
  · rw [k1] at m0
    have EI : Hid ((if m.kind = 109 then R.without names else R) = R.without names) := Lib.hid (if_pos k1)
    by_cases k2 : ∃ p ∈ R.reqs, p.id = names
    · obtain ⟨p, hp, rfl⟩ := k2
      have hnum := HT.out p hp rfl
      have hfind : R.reqs.find? (fun q => q.num == t) = some p := by
        subst hnum
        exact find_unique HREL.out.wf.reqs hp (by simp) (fun y _ z _ hy hz hP => hP.2.1 (by simp at hy hz; rw [hy, hz]))
      rw [hfind] at hlk
      simp only [Option.map_some, ptV] at hlk
      have HO := Lib.hid (over2_any HREL.out hp)
      have hE := eql109_same ⟨G.rb p.id, 0, none⟩ w1.drew
      clear hfind hnum HT HAP
      go_enter Tryz.func82, Tryz.ntmps82
      go_wp2_with fail
      go_region
      go_wp2_with fail
      refine HO.out.mono ?_
      rintro e w2 ⟨rfl, h2, h3, h4⟩
      have H3 := Lib.hid h3
      clear h3
      have H2 := Lib.hid h2
      have H4 := Lib.hid h4
      clear h2 h4
      go_wp2_with fail
      go_end0
      exact ⟨rfl, H2.out, (HMA.out.mono (by simp)).trans H4.out (fun b hb => Or.inl hb), HKA.out.trans H3.out⟩
    · have HN : Hid (R.without names = R) := Lib.hid (without_none fun p hp e => k2 ⟨p, hp, e⟩)
      cases hfind : R.reqs.find? (fun q => q.num == t) with
      | none =>
        rw [hfind] at hlk
        simp only [Option.map_none, ptV] at hlk
        have hE := eql109_none ⟨G.rb names, 0, none⟩ w1.drew
        clear hfind HT HAP
        go_enter Tryz.func82, Tryz.ntmps82
        go_wp2_with fail
        go_region
        go_wp2_with fail
        go_end0
        exact ⟨rfl, by rw [HN.out]; exact HREL.out, HMA.out.mono (by simp), HKA.out⟩
      | some p =>
        rw [hfind] at hlk
        simp only [Option.map_some, ptV] at hlk
        obtain ⟨_, cp, _, _, hpr, -⟩ := HREL.out.req p (List.mem_of_find?_eq_some hfind)
        have hE := eql109_other (fun e => k2 ⟨p, List.mem_of_find?_eq_some hfind, HAP.out p (List.mem_of_find?_eq_some hfind) e⟩) hpr HT1.out
        clear hfind HT HAP
        go_enter Tryz.func82, Tryz.ntmps82
        go_wp2_with fail
        go_region
        go_wp2_with fail
        go_end0
        exact ⟨rfl, by rw [HN.out]; exact HREL.out, HMA.out.mono (by simp), HKA.out⟩
  · have b1 : ((m.kind : Int) == 109) = false := by simpa using (by omega : ¬ (m.kind : Int) = 109)
    have EI : Hid ((if m.kind = 109 then R.without names else R) = R) := Lib.hid (if_neg k1)
    clear HT HAP
    go_enter Tryz.func82, Tryz.ntmps82
    go_wp2_with fail
    go_region
    go_wp2_with fail
    go_end0
    exact ⟨rfl, HREL.out, HMA.out.mono (by simp), HKA.out⟩
set_option maxRecDepth 100000 in
set_option maxHeartbeats 2000000 in
theorem comes2_any (h : IsRel w r R U G vo) {q : ReqP} {c1 c2 c3 c4 : Nat} {vu : Value} (hc : Comes w G q c1 c2 c3 c4 vu) (hu : q.uses.length ≤ 2) (hul : ∀ i ∈ q.uses, ∃ l ∈ R.links, l.id = i) (hfr : q.fresh ≠ 0 → q.fresh ∈ q.uses)
    (m : MsgP) (vn vd : Value) (A12 : Option Addr) (k12 : Nat) :
    Calls Tryz.prog 121 #[.agg (msgC m vn (.slice A12 m.qids.length k12) vd).toArray, .pointer (some ⟨c1, 0, none⟩), .pointer (some ⟨c2, 0, none⟩), .pointer (some ⟨c3, 0, none⟩), .pointer (some ⟨c4, 0, none⟩)] w fun e w' => e = .returned (.tuple #[]) ∧ IsRel w' r (R.marks q m) U G vo ∧ Mods G.F w w' ∧ KeepC 148 G.F w w' := by
  have hmA := (Mods.refl [] w).alloc (.cells (msgC m vn (.slice A12 m.qids.length k12) vd).toArray 47)
  have hrow : (w.alloc (.cells (msgC m vn (.slice A12 m.qids.length k12) vd).toArray 47)).heap[w.heap.size]? = some (.cells (msgC m vn (.slice A12 m.qids.length k12) vd).toArray 47 (0, 0)) := heap_alloc_new _ _
  have hrelA := h.still hmA
  have hcA := hc.still hmA
  generalize hw1 : w.alloc (.cells (msgC m vn (.slice A12 m.qids.length k12) vd).toArray 47) = w1 at *
  generalize hmc : msgC m vn (.slice A12 m.qids.length k12) vd = mc at *
  have d1 : w1.cell? ⟨c1, 0, none⟩ = some (.int .u8 (q.kind : Int)) := by rw [cell_of_row _ _ _ _ _ _ hcA.kind]; rfl
  have d2 : w1.cell? ⟨c2, 0, none⟩ = some vu := by rw [cell_of_row _ _ _ _ _ _ hcA.uses]; rfl
  have d3 : w1.cell? ⟨c3, 0, none⟩ = some (.pointer (if q.fresh = 0 then none else some ⟨G.lb q.fresh, 0, none⟩)) := by rw [cell_of_row _ _ _ _ _ _ hcA.link]; rfl
  have d4 : w1.cell? ⟨c4, 0, none⟩ = some (.int .i64 (q.many : Int)) := by rw [cell_of_row _ _ _ _ _ _ hcA.many]; rfl
  have m0 : w1.cell? ⟨w.heap.size, 0, none⟩ = some (.int .u8 (m.kind : Int)) := by rw [cell_of_row _ _ _ _ _ _ hrow, ← hmc]; rfl
  have m12 : w1.cell? ⟨w.heap.size, 12, none⟩ = some (.slice A12 m.qids.length k12) := by rw [cell_of_row _ _ _ _ _ _ hrow, ← hmc]; rfl
  have HREL := Lib.hid hrelA
  have HMA := Lib.hid hmA
  have HKA := Lib.hid (keep_still (T := 148) (F := G.F) hmA)
  have HUL := Lib.hid hul
  obtain ⟨A, c, hvu, -⟩ := id hcA.row
  have HR := Lib.hid hcA.row
  clear h hc hrelA hmA hrow hcA hul hmc
  by_cases k1 : q.kind = 120 ∨ q.kind = 122
  · have HMK := Lib.hid (RelP.marks_unreal R q m k1)
    subst hvu
    rcases k1 with k1 | k1
    · rw [k1] at d1
      go_enter Tryz.func121, Tryz.ntmps121
      go_wp2_with fail
      go_loopw [14] (fun i wr => ∃ k : Nat, k ≤ q.uses.length ∧ i = .int .i64 k ∧ IsRel wr r (R.unreal (q.uses.take k)) U G vo ∧ KeepC 148 G.F w1 wr ∧ Mods G.F w wr) (fun i _ => q.uses.length - (intOf i).toNat)
      case atStart => exact ⟨0, by omega, rfl, HREL.out, KeepC.refl _ _ _, HMA.out.mono (by simp)⟩
      case round =>
        obtain ⟨k, hk, rfl, hr, hkc, hm⟩ := hrel
        have HRR := Lib.hid hr
        have HKC := Lib.hid hkc
        have HMR := Lib.hid hm
        rcases Nat.lt_or_ge k q.uses.length with hlt | hge
        · obtain ⟨i, hs⟩ : ∃ i, q.uses[k]? = some i := ⟨_, List.getElem?_eq_getElem hlt⟩
          obtain ⟨l, hl, rfl⟩ := unreal_ids (q.uses.take k) (HUL.out i (List.mem_of_getElem? hs))
          obtain ⟨g, rfl, hc⟩ := LRow.at (HR.out.keepT hkc (by decide)) rfl hs
          have g1 : wr.cell? ⟨G.lb l.id, 1, none⟩ = some (.bool l.real) := by
            rw [link_cell hr hl 1]
            rfl
          have f1 : wr.frozen? ⟨G.lb l.id, 1, none⟩ = false := frozen_of_row _ _ _ _ _ (hr.link l hl).2
          have HS := Lib.hid (hr.setReal hl false)
          have HLF := Lib.hid (hr.link l hl).1
          have HT := Lib.hid (unreal_take (R := R) hs)
          clear hr hkc hm hs hl
          go_wp2_with fail
          exact ⟨⟨k + 1, by omega, by simp, by rw [HT.out]; exact HS.out.1, HKC.out.trans HS.out.2, HMR.out.setCell (p := ⟨G.lb l.id, 1, none⟩) (Or.inl HLF.out) _⟩, by simp [intOf]; omega⟩
        · obtain rfl : k = q.uses.length := by omega
          clear hr hkc hm
          go_wp2_with fail
          go_end0
          exact ⟨rfl, by rw [HMK.out]; rw [List.take_length] at HRR; exact HRR.out, HMR.out, HKA.out.trans HKC.out⟩
    · rw [k1] at d1
      go_enter Tryz.func121, Tryz.ntmps121
      go_wp2_with fail
      go_loopw [14] (fun i wr => ∃ k : Nat, k ≤ q.uses.length ∧ i = .int .i64 k ∧ IsRel wr r (R.unreal (q.uses.take k)) U G vo ∧ KeepC 148 G.F w1 wr ∧ Mods G.F w wr) (fun i _ => q.uses.length - (intOf i).toNat)
      case atStart => exact ⟨0, by omega, rfl, HREL.out, KeepC.refl _ _ _, HMA.out.mono (by simp)⟩
      case round =>
        obtain ⟨k, hk, rfl, hr, hkc, hm⟩ := hrel
        have HRR := Lib.hid hr
        have HKC := Lib.hid hkc
        have HMR := Lib.hid hm
        rcases Nat.lt_or_ge k q.uses.length with hlt | hge
        · obtain ⟨i, hs⟩ : ∃ i, q.uses[k]? = some i := ⟨_, List.getElem?_eq_getElem hlt⟩
          obtain ⟨l, hl, rfl⟩ := unreal_ids (q.uses.take k) (HUL.out i (List.mem_of_getElem? hs))
          obtain ⟨g, rfl, hc⟩ := LRow.at (HR.out.keepT hkc (by decide)) rfl hs
          have g1 : wr.cell? ⟨G.lb l.id, 1, none⟩ = some (.bool l.real) := by
            rw [link_cell hr hl 1]
            rfl
          have f1 : wr.frozen? ⟨G.lb l.id, 1, none⟩ = false := frozen_of_row _ _ _ _ _ (hr.link l hl).2
          have HS := Lib.hid (hr.setReal hl false)
          have HLF := Lib.hid (hr.link l hl).1
          have HT := Lib.hid (unreal_take (R := R) hs)
          clear hr hkc hm hs hl
          go_wp2_with fail
          exact ⟨⟨k + 1, by omega, by simp, by rw [HT.out]; exact HS.out.1, HKC.out.trans HS.out.2, HMR.out.setCell (p := ⟨G.lb l.id, 1, none⟩) (Or.inl HLF.out) _⟩, by simp [intOf]; omega⟩
        · obtain rfl : k = q.uses.length := by omega
          clear hr hkc hm
          go_wp2_with fail
          go_end0
          exact ⟨rfl, by rw [HMK.out]; rw [List.take_length] at HRR; exact HRR.out, HMR.out, HKA.out.trans HKC.out⟩
  · have nk : ¬ q.kind = 120 ∧ ¬ q.kind = 122 := ⟨fun e => k1 (Or.inl e), fun e => k1 (Or.inr e)⟩
    have b120 : ((q.kind : Int) == 120) = false := by simpa using (by omega : ¬ (q.kind : Int) = 120)
    have b122 : ((q.kind : Int) == 122) = false := by simpa using (by omega : ¬ (q.kind : Int) = 122)
    by_cases k2 : q.kind = 102 ∨ q.kind = 104 ∨ q.kind = 110
    · by_cases k3 : q.fresh = 0
      · have HN : Hid (R.marks q m = R) := Lib.hid (RelP.marks_not R q m k1 (fun l hl e => by
          have := (HREL.out.wf.link l hl).1
          omega))
        rw [if_pos k3] at d3
        rcases k2 with k2 | k2 | k2
        · rw [k2] at d1
          go_enter Tryz.func121, Tryz.ntmps121
          go_wp2_with fail
          go_end0
          exact ⟨rfl, by rw [HN.out]; exact HREL.out, HMA.out.mono (by simp), HKA.out⟩
        · rw [k2] at d1
          go_enter Tryz.func121, Tryz.ntmps121
          go_wp2_with fail
          go_end0
          exact ⟨rfl, by rw [HN.out]; exact HREL.out, HMA.out.mono (by simp), HKA.out⟩
        · rw [k2] at d1
          go_enter Tryz.func121, Tryz.ntmps121
          go_wp2_with fail
          go_end0
          exact ⟨rfl, by rw [HN.out]; exact HREL.out, HMA.out.mono (by simp), HKA.out⟩
      · obtain ⟨l, hl, e⟩ := HUL.out _ (hfr k3)
        rw [if_neg k3, ← e] at d3
        have E := Lib.hid e
        clear e
        by_cases k4 : m.kind = 107
        · have HN : Hid (R.marks q m = R) := Lib.hid (RelP.marks_not R q m k1 (fun l hl e => fun x => x.1 k4))
          rw [k4] at m0
          rcases k2 with k2 | k2 | k2
          · rw [k2] at d1
            go_enter Tryz.func121, Tryz.ntmps121
            go_wp2_with fail
            go_end0
            exact ⟨rfl, by rw [HN.out]; exact HREL.out, HMA.out.mono (by simp), HKA.out⟩
          · rw [k2] at d1
            go_enter Tryz.func121, Tryz.ntmps121
            go_wp2_with fail
            go_end0
            exact ⟨rfl, by rw [HN.out]; exact HREL.out, HMA.out.mono (by simp), HKA.out⟩
          · rw [k2] at d1
            go_enter Tryz.func121, Tryz.ntmps121
            go_wp2_with fail
            go_end0
            exact ⟨rfl, by rw [HN.out]; exact HREL.out, HMA.out.mono (by simp), HKA.out⟩
        · have b107 : ((m.kind : Int) == 107) = false := by simpa using (by omega : ¬ (m.kind : Int) = 107)
          have g1 : w1.cell? ⟨G.lb l.id, 1, none⟩ = some (.bool l.real) := by
            rw [link_cell HREL.out hl 1]
            rfl
          have f1 : w1.frozen? ⟨G.lb l.id, 1, none⟩ = false := frozen_of_row _ _ _ _ _ (HREL.out.link l hl).2
          have HS := Lib.hid (HREL.out.setReal hl true)
          have HLF := Lib.hid (HREL.out.link l hl).1
          by_cases k5 : q.kind = 110 ∧ ¬ m.qids.length = q.many
          · have HN : Hid (R.marks q m = R) := Lib.hid (RelP.marks_not R q m k1 (fun l hl e => fun x => by omega))
            have bl : ((m.qids.length : Int) == (q.many : Int)) = false := by simpa using (by omega : ¬ (m.qids.length : Int) = (q.many : Int))
            rw [k5.1] at d1
            go_enter Tryz.func121, Tryz.ntmps121
            go_wp2_with fail
            go_end0
            exact ⟨rfl, by rw [HN.out]; exact HREL.out, HMA.out.mono (by simp), HKA.out⟩
          · have HN : Hid (R.marks q m = R.setReal l.id true) := Lib.hid (by rw [E.out]; exact RelP.marks_real R q m k1 ⟨k4, by omega⟩)
            rcases k2 with k2 | k2 | k2
            · rw [k2] at d1
              go_enter Tryz.func121, Tryz.ntmps121
              go_wp2_with fail
              go_end0
              exact ⟨rfl, by rw [HN.out]; exact HS.out.1, (HMA.out.mono (by simp)).setCell (p := ⟨G.lb l.id, 1, none⟩) (Or.inl HLF.out) _, HKA.out.trans HS.out.2⟩
            · rw [k2] at d1
              go_enter Tryz.func121, Tryz.ntmps121
              go_wp2_with fail
              go_end0
              exact ⟨rfl, by rw [HN.out]; exact HS.out.1, (HMA.out.mono (by simp)).setCell (p := ⟨G.lb l.id, 1, none⟩) (Or.inl HLF.out) _, HKA.out.trans HS.out.2⟩
            · rw [k2] at d1
              have bl : ((m.qids.length : Int) == (q.many : Int)) = true := by simpa using (by omega : (m.qids.length : Int) = (q.many : Int))
              go_enter Tryz.func121, Tryz.ntmps121
              go_wp2_with fail
              go_end0
              exact ⟨rfl, by rw [HN.out]; exact HS.out.1, (HMA.out.mono (by simp)).setCell (p := ⟨G.lb l.id, 1, none⟩) (Or.inl HLF.out) _, HKA.out.trans HS.out.2⟩
    · have HN : Hid (R.marks q m = R) := Lib.hid (RelP.marks_not R q m k1 (fun l hl e => fun x => by omega))
      have b102 : ((q.kind : Int) == 102) = false := by simpa using (by omega : ¬ (q.kind : Int) = 102)
      have b104 : ((q.kind : Int) == 104) = false := by simpa using (by omega : ¬ (q.kind : Int) = 104)
      have b110 : ((q.kind : Int) == 110) = false := by simpa using (by omega : ¬ (q.kind : Int) = 110)
      go_enter Tryz.func121, Tryz.ntmps121
      go_wp2_with fail
      go_end0
      exact ⟨rfl, by rw [HN.out]; exact HREL.out, HMA.out.mono (by simp), HKA.out⟩
end
end Go.Proofs.YtlgoeipgmjcboaaGreatDoor
namespace Go.Proofs.YtlgoeipgmjcboaaGreatDoor
open Go.RowKit Me
def RelP.thenP (R : RelP) (q : ReqP) (m : MsgP) : RelP := if q.kind = 108 then (if m.kind = 109 then R.without q.names else R) else R.marks q m
theorem then_thenP (R : RelP) (q : ReqP) (m : MsgP) : R.then_ q m = (R.without q.id).thenP q m := by
  unfold RelP.then_ RelP.thenP
  split
  · split <;> rfl
  · rfl
theorem thenP_clients (R : RelP) (q : ReqP) (m : MsgP) : (R.thenP q m).clients = R.clients := by
  unfold RelP.thenP
  split
  · split <;> rfl
  · rfl
theorem answer_is {k : Nat} (h : answerK k ≠ none) : answerK k = some (k + 1) ∧ k < 256 := by
  unfold answerK at h ⊢
  split at h
  · rename_i h1
    rw [if_pos h1]
    refine ⟨rfl, ?_⟩
    rw [Bool.and_eq_true] at h1
    refine Nat.lt_of_not_le fun h2 => ?_
    have h3 : fieldsOf k = none := by
      unfold fieldsOf
      repeat (first | rw [if_neg (by omega)] | rfl)
    rw [h3] at h1
    simp at h1
  · exact absurd rfl h
section
variable {w0 w w' : World} {F0 K : List Nat} {r n : Nat} {R R' : RelP} {U : Nat → Nat} {G : Gh} {vo : Value} {L : List OutV} {m : MsgP} {vn vq vd : Value}
/-- What is done by a reply, whichever it is. -/
theorem then_any (h : IsRel w r R R.used G vo) {q : ReqP} {vt : Value} (ht : IsThen w r G R q vt) (hu : q.uses.length ≤ 2) (hul : ∀ i ∈ q.uses, ∃ l ∈ R.links, l.id = i) (hfr : q.fresh ≠ 0 → q.fresh ∈ q.uses) (m : MsgP) (vn vd : Value) (A12 : Option Addr) (k12 : Nat) :
    ∃ k caps, vt = .func (.func k) #[] caps ∧ (∀ (args : Array Value) (w : World), (callFunc k args).run Tryz.prog w = .ok (.enter k args) w) ∧
      Calls Tryz.prog k (#[.agg (msgC m vn (.slice A12 m.qids.length k12) vd).toArray] ++ caps) w fun e w' => e = .returned (.tuple #[]) ∧ IsRel w' r (R.thenP q m) (R.thenP q m).used G vo ∧ Mods G.F w w' ∧ KeepC 148 G.F w w' := by
  rcases ht with ⟨k, c1, c2, e, f1, f2, g1, g2, f3, g3, g5⟩ | ⟨k, c1, c2, c3, c4, vu, e, f1, f2, f3, f4, g1, g2, g3, g4, g5⟩
  · refine ⟨82, _, e, enters_of Tryz.func82 (by kernel_rfl) rfl, ?_⟩
    have hf : Flush w r G R q.names c1 c2 := ⟨⟨f1, f2, f3⟩, g1, g2, g3, g5⟩
    unfold RelP.thenP
    rw [if_pos k]
    exact flush2_any h hf m vn (.slice A12 m.qids.length k12) vd
  · refine ⟨121, _, e, enters_of Tryz.func121 (by kernel_rfl) rfl, ?_⟩
    have hc : Comes w G q c1 c2 c3 c4 vu := ⟨⟨f1, f2, f3, f4⟩, g1, g2, g3, g4, g5⟩
    unfold RelP.thenP
    rw [if_neg k]
    exact comes2_any h hc hu hul hfr m vn vd A12 k12
theorem MsgR.far {X : List Nat} (h : MsgR w m vn vq vd) (hm : Mods X w w') (hX : ∀ k ∈ listB vn vq vd, k ∉ X) : MsgR w' m vn vq vd := by
  refine ⟨h.names.mods hm (fun k hk => hX k (by simp [listB, hk])), ?_, h.data.mods hm (fun k hk => hX k (by simp [listB, hk]))⟩
  obtain ⟨A, c, rfl, h1, h2, h3⟩ := h.qids
  refine ⟨A, c, rfl, h1, h2, fun i p hp => ?_⟩
  obtain ⟨g, off, rfl, h4⟩ := h3 i p hp
  exact ⟨g, off, rfl, range_mods h4 hm (hX g (by simp [listB, Value.ownBlock]))⟩
theorem Went.cons {x : RelP × List OutP} {o : OutV} {c : Nat} {m' : MsgP} (h : Went w0 F0 K r x G [o] w) (h1 : o.c = (c : Int)) (h2 : o.m = m') : Outs w0 F0 K r (x.1, [(c, m')] ++ x.2) [] w := by
  obtain ⟨L', G', -, hp, hst⟩ := h
  refine ⟨[o] ++ L', G', ?_, by rw [List.nil_append]; exact hst⟩
  rw [List.map_append, hp, asInt_app]
  unfold asInt OutV.plain
  simp [h1, h2]
theorem Went.nil {x : RelP × List OutP} (h : Went w0 F0 K r x G [] w) : Outs w0 F0 K r (x.1, [] ++ x.2) [] w := by
  rw [List.nil_append]
  exact h.outs
theorem back_none (h : R.reqs.find? (fun q => q.num == m.tag) = none) : R.back m = ((R, []), 201) := by
  unfold RelP.back
  rw [h]
theorem back_wrong {q : ReqP} (h : R.reqs.find? (fun q => q.num == m.tag) = some q) (h1 : m.kind ≠ 107) (h2 : m.kind ≠ q.kind + 1) : R.back m = ((R, []), 201) := by
  unfold RelP.back
  rw [h]
  simp only
  rw [if_pos ⟨h1, h2⟩]
theorem back_some {q : ReqP} (h : R.reqs.find? (fun q => q.num == m.tag) = some q) (h1 : m.kind = 107 ∨ m.kind = q.kind + 1) : R.back m = ((((R.without q.id).thenP q m).prune.goOn.1, R.tells q m ++ ((R.without q.id).thenP q m).prune.goOn.2), 0) := by
  unfold RelP.back
  rw [h]
  simp only
  rw [if_neg (by omega), then_thenP]
theorem tells_not {q : ReqP} (h : ¬ (q.own = false ∧ q.lost = false)) : R.tells q m = [] := by
  unfold RelP.tells
  rw [if_neg h]
theorem tells_io {q : ReqP} (h : q.own = false ∧ q.lost = false) (hk : m.kind = 113 ∨ m.kind = 115) : R.tells q m = [(q.client, { m with tag := q.tag, iounit := min m.iounit ((R.cli q.client).msize - 24) })] := by
  unfold RelP.tells
  rw [if_pos h, if_pos hk]
theorem tells_plain {q : ReqP} (h : q.own = false ∧ q.lost = false) (hk : ¬ (m.kind = 113 ∨ m.kind = 115)) : R.tells q m = [(q.client, { m with tag := q.tag })] := by
  unfold RelP.tells
  rw [if_pos h, if_neg hk]
end
end Go.Proofs.YtlgoeipgmjcboaaGreatDoor
