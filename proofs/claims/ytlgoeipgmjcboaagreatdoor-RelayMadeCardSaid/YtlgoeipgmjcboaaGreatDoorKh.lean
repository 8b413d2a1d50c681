/- Back: a reply of the server. (Printed by wip/bin/genkh.py.) -/
import Derived.Test.YtlgoeipgmjcboaaGreatDoorKg
import Derived.Deep.AppendLies
import Derived.Deep.CutRange
namespace Go.Proofs.YtlgoeipgmjcboaaGreatDoor
open Go.RowKit Me
section
variable {w0 w w' : World} {r n : Nat} {R : RelP} {G : Gh} {m : MsgP} {vn vq vd : Value}
theorem row_range {b : Nat} {vn vq vd : Value} (h : w.heap[b]? = some (.cells (msgC m vn vq vd).toArray 47 (0, 0))) : w.rangeAt b 0 (msgC m vn vq vd) := fun j v hj => by
  rw [cell_of_row _ _ _ _ _ _ h]
  simpa using hj
set_option maxRecDepth 100000 in
set_option maxHeartbeats 32000000 in
theorem back_any (h : Rest w r R G) (hsm : SmallM m) (hr : MsgR w m vn vq vd) (hp : PlainM vn vq vd) (hfar : ∀ k ∈ listB vn vq vd, k ∉ G.F) :
    Calls Tryz.prog 16 #[.pointer (some ⟨r, 0, none⟩), .agg (msgC m vn vq vd).toArray] w fun e w' => ∃ A k c, e = .returned (.tuple #[.slice A k c, .int .i64 ((R.back m).2 : Int)]) ∧ Done w G.F r (R.back m).1 (.slice A k c) w' := by
  obtain ⟨A12, k12, rfl, -⟩ := id hr.qids
  have hm1 := (Mods.refl [] w).alloc (.cells (msgC m vn (.slice A12 m.qids.length k12) vd).toArray 47)
  have hrow := heap_alloc_new w (.cells (msgC m vn (.slice A12 m.qids.length k12) vd).toArray 47)
  have hb3 : ∀ k ∈ G.F, k ∉ [w.heap.size] := fun k hk hk' => by
    have := h.rel.lt k hk
    simp at hk'
    omega
  generalize hw1 : w.alloc (.cells (msgC m vn (.slice A12 m.qids.length k12) vd).toArray 47) = w1 at *
  generalize hb : w.heap.size = b3 at *
  have HB : Hid (w.heap.size ≤ b3) := Lib.hid (by omega)
  have hmd := hm1.drew
  have hrelA := h.rel.still hmd
  have hrowd : w1.drew.heap[b3]? = some (.cells (msgC m vn (.slice A12 m.qids.length k12) vd).toArray 47 (0, 0)) := hrow
  have c5 : w1.drew.cell? ⟨r, 5, none⟩ = some (.map (some G.ub)) := hrelA.cell 5
  have k1 : w1.drew.cell? ⟨b3, 1, none⟩ = some (.int .u16 (m.tag : Int)) := by rw [cell_of_row _ _ _ _ _ _ hrowd]; rfl
  have hlk := hrelA.under.look Tryz.underlying78 (zero109 w1.drew) m.tag hsm.tag
  change (Instr.lookup 78 (.map (some G.ub)) (.int .u16 (m.tag : Int)) false).run Tryz.prog w1.drew = .ok (ptV (Me.look (reqM R G) m.tag)) w1.drew at hlk
  rw [req_look] at hlk
  have HR := Lib.hid h
  have HMD := Lib.hid hmd
  have HREL := Lib.hid hrelA
  have HROW := Lib.hid hrowd
  have HSM := Lib.hid hsm
  have HMR := Lib.hid hr
  have HP := Lib.hid hp
  have HFAR := Lib.hid hfar
  have HB3 := Lib.hid hb3
  clear h hsm hr hp hfar hm1 hrow hb3 hmd hrelA hrowd
  cases hfind : R.reqs.find? (fun q => q.num == m.tag) with
  | none =>
    rw [hfind] at hlk
    simp only [Option.map_none, ptV] at hlk
    have HY := Lib.hid (back_none hfind)
    clear hfind
    generalize (msgC m vn (.slice A12 m.qids.length k12) vd).toArray = mc at *
    go_enter Tryz.func16, Tryz.ntmps16
    go_wp2_with fail
    go_region
    all_goals go_wp2_with fail
    all_goals go_ret2
    all_goals rw [HY.out]
    all_goals exact ⟨none, 0, 0, rfl, done_none HR.out.rel HMD.out⟩
  | some q =>
    rw [hfind] at hlk
    simp only [Option.map_some, ptV] at hlk
    have hq : q ∈ R.reqs := List.mem_of_find?_eq_some hfind
    have hqw := HR.out.rel.wf.req q hq
    obtain ⟨hak, hk256⟩ := answer_is hqw.2.2.2.2.2.1
    obtain ⟨hrbF, cs, vu, vt, g0, g43, gk, gn, gc, go, gt, gl, gu, gv, glr, gth⟩ := HREL.out.req q hq
    have kq : w1.drew.cell? ⟨G.rb q.id, 0, none⟩ = some (.int .u8 (q.kind : Int)) := by rw [cell_of_row _ _ _ _ _ _ g0]; exact gk
    have k0 : w1.drew.cell? ⟨b3, 0, none⟩ = some (.int .u8 (m.kind : Int)) := by rw [cell_of_row _ _ _ _ _ _ HROW.out]; rfl
    have han := answer_any q.kind hk256 w1.drew
    rw [hak] at han
    simp only [Option.getD_some, Option.isSome_some] at han
    have HAN := Lib.hid han
    have HFD := Lib.hid hfind
    have HQ := Lib.hid hq
    have HQW := Lib.hid hqw
    have HRBF := Lib.hid hrbF
    have HG0 := Lib.hid g0
    have HG := Lib.hid (show cs[36]? = some (.int .i64 (q.client : Int)) ∧ cs[37]? = some (.bool q.own) ∧ cs[38]? = some (.int .u16 (q.tag : Int)) ∧ cs[39]? = some (.bool q.lost) ∧ cs[42]? = some vt from ⟨gc, go, gt, gl, gv⟩)
    have HGTH := Lib.hid gth
    clear hfind hq hqw hak hrbF g0 g43 gk gn gc go gt gl gu gv glr gth han
    generalize hmc : (msgC m vn (.slice A12 m.qids.length k12) vd).toArray = mc at *
    by_cases h107 : m.kind = 107
    · have b107 : ((m.kind : Int) != 107) = false := by rw [h107]; rfl
      have H107 := Lib.hid h107
      have HOKK : Hid (m.kind = 107 ∨ m.kind = q.kind + 1) := Lib.hid (Or.inl h107)
      clear h107
      go_enter Tryz.func16, Tryz.ntmps16
      go_wp2_with fail
      go_region
      go_wp2_with fail
      refine HAN.out.mono ?_
      rintro e w2 ⟨rfl, hm2⟩
      have HM2 := Lib.hid hm2
      have k0' : w2.cell? ⟨b3, 0, none⟩ = some (.int .u8 (m.kind : Int)) := by rw [cell_of_row _ _ _ _ _ _ (hm2.heap HROW.out (by simp)), ← hmc]; rfl
      clear hm2
      go_wp2_with fail
      refine (over2_any (HREL.out.still HM2.out) HQ.out).mono ?_
      rintro e w3 ⟨rfl, hrel3, hkc3, hm3⟩
      have hg3 := hkc3.cells _ _ _ _ HRBF.out (by decide) (HM2.out.heap HG0.out (by simp))
      have hth3 := ((HGTH.out.keepT (KeepT.mods (T := 0) HM2.out (by simp)).toKeepC (by decide) (by decide) (by decide) (by decide) (by decide) (by decide) (by decide)).keepT hkc3 (by decide) (by decide) (by decide) (by decide) (by decide) (by decide) (by decide)).sub (R' := R.without q.id) (fun p hp => (List.mem_filter.1 hp).1)
      have hdr3 : Mods [] w3 w3.drew := (Mods.refl [] w3).drew
      obtain ⟨kf, caps, rfl, e9, hcl⟩ := then_any (m := m) (vn := vn) (vd := vd) (A12 := A12) (k12 := k12) (hrel3.still hdr3) (hth3.keepT (KeepT.mods (T := 0) hdr3 (by simp)).toKeepC (by decide) (by decide) (by decide) (by decide) (by decide) (by decide) (by decide)) HQW.out.2.2.2.2.2.2.2.2.2.2 HQW.out.2.2.2.2.2.2.2.1 HQW.out.2.2.2.2.2.2.2.2.1
      rw [hmc] at hcl
      have hrow3 : w3.heap[b3]? = some (.cells mc 47 (0, 0)) := hm3.heap (HM2.out.heap HROW.out (by simp)) (fun hk => HB3.out b3 hk (by simp))
      have hc42 : w3.drew.cell? ⟨G.rb q.id, 42, none⟩ = some (.func (.func kf) #[] caps) := by
        rw [cell_of_row _ _ _ _ _ _ (show w3.drew.heap[G.rb q.id]? = _ from hg3)]
        exact HG.out.2.2.2.2
      rw [← hmc] at hrow3
      have hrg : w3.drew.rangeAt b3 0 (msgC m vn (.slice A12 m.qids.length k12) vd) := row_range (w := w3.drew) hrow3
      have HROW3 := Lib.hid hrow3
      have HREL3 := Lib.hid hrel3
      have HG3 := Lib.hid hg3
      have HM3 := Lib.hid (((HMD.out.trans HM2.out (by simp)).mono (G := G.F) (by simp)).trans hm3 (fun b hb => Or.inl hb))
      have HCLO := Lib.hid hcl
      have HRG := Lib.hid hrg
      clear hrel3 hkc3 hm3 hg3 hth3 hdr3 hcl hrow3 hrg
      go_wp2_with fail
      refine wp_region_held_drew (S := fun W => W.rangeAt b3 0 (msgC m vn (.slice A12 m.qids.length k12) vd) ∧ W.cell? ⟨G.rb q.id, 42, none⟩ = some (.func (.func kf) #[] caps)) (by kernel_rfl) ⟨HRG.out, hc42⟩ (fun hHeld => ?_)
      refine wpAnyH_take (i := 0) (v := ?_) rfl (by kernel_rfl) (by kernel_rfl) (by kernel_rfl) (fun _ _ _ h => h) (Or.inl ⟨by rfl, ?_⟩) hHeld ?_
      rotate_left
      · intro w hSw
        first | (go_simp; done) | (go_simp; with_reducible rfl)
      try simp only [Act.put, List.setIfInBounds_toArray]
      refine wpAnyH_take (i := 1) (v := ?_) rfl (by kernel_rfl) (by kernel_rfl) (by kernel_rfl) (fun _ _ _ h => h) (Or.inl ⟨by rfl, ?_⟩) hHeld ?_
      rotate_left
      · intro w hSw
        first | (go_simp; done) | (go_simp; with_reducible rfl)
      try simp only [Act.put]
      refine wpAnyH_take (i := 2) (v := ?_) rfl (by kernel_rfl) (by kernel_rfl) (by kernel_rfl) (fun _ _ _ h => h) (Or.inl ⟨by rfl, ?_⟩) hHeld ?_
      rotate_left
      · intro w hSw
        first | (go_simp; done) | (go_simp; with_reducible rfl)
      try simp only [Act.put]
      refine wpAnyH_take (i := 3) (v := ?_) rfl (by kernel_rfl) (by kernel_rfl) (by kernel_rfl) (fun _ _ _ h => h) (Or.inl ⟨by rfl, ?_⟩) hHeld ?_
      rotate_left
      · intro w hSw
        have hc := hSw.2
        first | (go_simp; done) | (go_simp; with_reducible rfl)
      try simp only [Act.put]
      refine wpAnyH_take (i := 4) (v := .agg (msgC m vn (.slice A12 m.qids.length k12) vd).toArray) rfl (by kernel_rfl) (by kernel_rfl) (by kernel_rfl) (fun _ _ _ h => h) ?hy1 hHeld ?hz1
      case hy1 => exact yieldsIf_load_mid rfl 47 _ rfl b3 0 rfl (msgC m vn (.slice A12 m.qids.length k12) vd) _ (fun _ h => h.1) Tryz.underlying47 rfl (info47 m vn (.slice A12 m.qids.length k12) vd)
      try simp only [Act.put]
      refine wpAnyH_ready (rs := [5]) (by kernel_rfl) (by simp) ?_
      refine AllReadyH.cons rfl (fun K2 hK => ?_) ?_
      · go_simp
        refine HCLO.out.mono ?_
        rintro e w4 ⟨rfl, hrel4, hm4, hkc4⟩
        have hrow4 : w4.heap[b3]? = some (.cells (msgC m vn (.slice A12 m.qids.length k12) vd).toArray 47 (0, 0)) := hm4.heap (show w3.drew.heap[b3]? = _ from HROW3.out) (fun hk => HB3.out b3 hk (by simp))
        have hg4 := hkc4.cells _ _ _ _ HRBF.out (by decide) (show w3.drew.heap[G.rb q.id]? = _ from HG3.out)
        have hc42' : w4.cell? ⟨G.rb q.id, 42, none⟩ = some (.func (.func kf) #[] caps) := by
          rw [cell_of_row _ _ _ _ _ _ hg4]
          exact HG.out.2.2.2.2
        try go_simp
        refine hK.out _ _ ⟨row_range hrow4, hc42'⟩ (fun hHeld => ?_)
        clear hK K2 hHeld
        refine wpAnyH_done (by kernel_rfl) ?_ _
        have HREL4 := Lib.hid hrel4
        have HPR := Lib.hid (prune2_any hrel4 (fun _ _ => rfl))
        have HROW4 := Lib.hid hrow4
        have HG4 := Lib.hid hg4
        have HM4 := Lib.hid (HM3.out.trans (show Mods G.F w3 w4 from ⟨hm4.os, hm4.tape, hm4.output, hm4.size, hm4.block⟩) (fun b hb => Or.inl hb))
        clear hrel4 hm4 hkc4 hrow4 hg4 hc42' hc42
        go_wp2_with fail
        refine HPR.out.mono ?_
        rintro e w5 ⟨rfl, hrel5, hm5, hkc5⟩
        have hrow5 : w5.heap[b3]? = some (.cells (msgC m vn (.slice A12 m.qids.length k12) vd).toArray 47 (0, 0)) := hm5.heap HROW4.out (fun hk => HB3.out b3 hk (by simp))
        have hg5 := hkc5.cells _ _ _ _ HRBF.out (by decide) HG4.out
        have hm05 := HM4.out.trans hm5 (fun b hb => Or.inl hb)
        have p37 : w5.cell? ⟨G.rb q.id, 37, none⟩ = some (.bool q.own) := by rw [cell_of_row _ _ _ _ _ _ hg5]; exact HG.out.2.1
        have p38 : w5.cell? ⟨G.rb q.id, 38, none⟩ = some (.int .u16 (q.tag : Int)) := by rw [cell_of_row _ _ _ _ _ _ hg5]; exact HG.out.2.2.1
        have p39 : w5.cell? ⟨G.rb q.id, 39, none⟩ = some (.bool q.lost) := by rw [cell_of_row _ _ _ _ _ _ hg5]; exact HG.out.2.2.2.1
        have p36 : w5.cell? ⟨G.rb q.id, 36, none⟩ = some (.int .i64 (q.client : Int)) := by rw [cell_of_row _ _ _ _ _ _ hg5]; exact HG.out.1
        have hs5 : St w G.F [b3] r ((R.without q.id).thenP q m).prune ((R.without q.id).thenP q m).prune.used G [] w5 := St.start hrel5 hm05 (fun _ hk => Or.inl hk) (fun j hj => by
          simp at hj
          subst hj
          exact ⟨(Array.getElem?_eq_some_iff.1 hrow5).1, fun hk => HB3.out _ hk (by simp)⟩)
        have HS5 := Lib.hid hs5
        have HROW5 := Lib.hid hrow5
        have HG5 := Lib.hid hg5
        have HY := Lib.hid (back_some HFD.out HOKK.out)
        clear hrel5 hm5 hkc5 hrow5 hg5 hm05 hs5
        cases eO : q.own with
        | true =>
          rw [eO] at p37
          have HO := Lib.hid eO
          clear eO
          have HTL := Lib.hid (tells_not (R := R) (m := m) (q := q) (fun h => by rw [HO.out] at h; cases h.1))
          rw [HTL.out] at HY
          have hgo := goOn_any (HS5.out.keep (K' := []) (by simp)) HR.out.env (by simp)
          have HGO := Lib.hid hgo
          clear hgo
          go_wp2_with fail
          refine HGO.out.mono ?_
          rintro e wg ⟨rfl, hw⟩
          have HTO := Lib.hid (took_outs hw.nil)
          clear hw
          go_wp2_with fail
          refine HTO.out.mono ?_
          rintro e wt ⟨A, kk, cc, rfl, hd⟩
          have HD := Lib.hid hd
          clear hd
          go_wp2_with fail
          go_ret2
          rw [HY.out]
          exact ⟨A, kk, cc, rfl, HD.out⟩
        | false =>
          rw [eO] at p37
          have HO := Lib.hid eO
          clear eO
          cases eL : q.lost with
          | true =>
            rw [eL] at p39
            have HLO := Lib.hid eL
            clear eL
            have HTL := Lib.hid (tells_not (R := R) (m := m) (q := q) (fun h => by rw [HLO.out] at h; cases h.2))
            rw [HTL.out] at HY
            have hgo := goOn_any (HS5.out.keep (K' := []) (by simp)) HR.out.env (by simp)
            have HGO := Lib.hid hgo
            clear hgo
            go_wp2_with fail
            refine HGO.out.mono ?_
            rintro e wg ⟨rfl, hw⟩
            have HTO := Lib.hid (took_outs hw.nil)
            clear hw
            go_wp2_with fail
            refine HTO.out.mono ?_
            rintro e wt ⟨A, kk, cc, rfl, hd⟩
            have HD := Lib.hid hd
            clear hd
            go_wp2_with fail
            go_ret2
            rw [HY.out]
            exact ⟨A, kk, cc, rfl, HD.out⟩
          | false =>
            rw [eL] at p39
            have HLO := Lib.hid eL
            clear eL
            have f1 : w5.frozen? ⟨b3, 1, none⟩ = false := frozen_of_row _ _ _ _ _ HROW5.out
            have d1 : w5.cell? ⟨b3, 1, none⟩ = some (.int .u16 (m.tag : Int)) := by rw [cell_of_row _ _ _ _ _ _ HROW5.out]; rfl
            have hrow6 : (w5.setCell ⟨b3, 1, none⟩ (.int .u16 (q.tag : Int))).heap[b3]? = some (.cells (msgC { m with tag := q.tag } vn (.slice A12 m.qids.length k12) vd).toArray 47 (0, 0)) := heap_setCell_same _ _ _ _ _ _ HROW5.out
            have hg6 := setOff (i := 1) HROW5.out HG5.out (by decide) (.int .u16 (q.tag : Int))
            have hs6 := HS5.out.setK (b := b3) (i := 1) (v := .int .u16 (q.tag : Int)) (by simp) HB.out
            have hmr6 : MsgR (w5.setCell ⟨b3, 1, none⟩ (.int .u16 (q.tag : Int))) { m with tag := q.tag } vn (.slice A12 m.qids.length k12) vd := by
              have := HMR.out.far hs6.mods HFAR.out
              exact ⟨this.names, this.qids, this.data⟩
            generalize hw6 : w5.setCell ⟨b3, 1, none⟩ (.int .u16 (q.tag : Int)) = w6 at *
            have k06 : w6.cell? ⟨b3, 0, none⟩ = some (.int .u8 (m.kind : Int)) := by rw [cell_of_row _ _ _ _ _ _ hrow6]; rfl
            have HROW6 := Lib.hid hrow6
            have HG6 := Lib.hid hg6
            have HS6 := Lib.hid hs6
            have HMR6 := Lib.hid hmr6
            clear hrow6 hg6 hs6 hmr6
            have b113 : ((m.kind : Int) == 113) = false := by rw [H107.out]; rfl
            have b115 : ((m.kind : Int) == 115) = false := by rw [H107.out]; rfl
            have HTLS := Lib.hid (tells_plain (R := R) (m := m) (q := q) ⟨HO.out, HLO.out⟩ (by have := H107.out; omega))
            rw [HTLS.out] at HY
            have hdr : Mods [] w6 w6.drew := (Mods.refl [] w6).drew
            have HTE := Lib.hid (tells_any (HS6.out.still hdr) q.client { m with tag := q.tag } HSM.out.lists (HMR6.out.mods hdr) HP.out (by simp))
            have HRGX := Lib.hid (show w6.drew.rangeAt b3 0 (msgC { m with tag := q.tag } vn (.slice A12 m.qids.length k12) vd) from row_range (w := w6.drew) HROW6.out)
            have p36x : w6.drew.cell? ⟨G.rb q.id, 36, none⟩ = some (.int .i64 (q.client : Int)) := by
              rw [cell_of_row _ _ _ _ _ _ (show w6.drew.heap[G.rb q.id]? = _ from HG6.out)]
              exact HG.out.1
            clear hdr
            go_wp2_with fail
            refine wp_region_held_drew (S := fun W => W.rangeAt b3 0 (msgC { m with tag := q.tag } vn (.slice A12 m.qids.length k12) vd)) (by kernel_rfl) HRGX.out (fun hHeld => ?_)
            refine wpAnyH_take (i := 0) (v := ?_) rfl (by kernel_rfl) (by kernel_rfl) (by kernel_rfl) (fun _ _ _ h => h) (Or.inl ⟨by rfl, ?_⟩) hHeld ?_
            rotate_left
            · intro w hSw
              first | (go_simp; done) | (go_simp; with_reducible rfl)
            try simp only [Act.put, List.setIfInBounds_toArray]
            refine wpAnyH_take (i := 1) (v := ?_) rfl (by kernel_rfl) (by kernel_rfl) (by kernel_rfl) (fun _ _ _ h => h) (Or.inl ⟨by rfl, ?_⟩) hHeld ?_
            rotate_left
            · intro w hSw
              first | (go_simp; done) | (go_simp; with_reducible rfl)
            try simp only [Act.put]
            refine wpAnyH_take (i := 2) (v := ?_) rfl (by kernel_rfl) (by kernel_rfl) (by kernel_rfl) (fun _ _ _ h => h) (Or.inl ⟨by rfl, ?_⟩) hHeld ?_
            rotate_left
            · intro w hSw
              first | (go_simp; done) | (go_simp; with_reducible rfl)
            try simp only [Act.put]
            refine wpAnyH_take (i := 3) (v := ?_) rfl (by kernel_rfl) (by kernel_rfl) (by kernel_rfl) (fun _ _ _ h => h) (Or.inl ⟨by rfl, ?_⟩) hHeld ?_
            rotate_left
            · intro w hSw
              first | (go_simp; done) | (go_simp; with_reducible rfl)
            try simp only [Act.put]
            refine wpAnyH_take (i := 5) (v := .agg (msgC { m with tag := q.tag } vn (.slice A12 m.qids.length k12) vd).toArray) rfl (by kernel_rfl) (by kernel_rfl) (by kernel_rfl) (fun _ _ _ h => h) ?hy2 hHeld ?hz2
            case hy2 => exact yieldsIf_load_mid rfl 47 _ rfl b3 0 rfl (msgC { m with tag := q.tag } vn (.slice A12 m.qids.length k12) vd) _ (fun _ h => h) Tryz.underlying47 rfl (info47 { m with tag := q.tag } vn (.slice A12 m.qids.length k12) vd)
            try simp only [Act.put]
            refine wpAnyH_ready (rs := [4]) (by kernel_rfl) (by simp) ?_
            refine AllReadyH.cons rfl (fun K2 hK => ?_) ?_
            · go_simp
              refine hK.out _ _ HRGX.out (fun hHeld => ?_)
              clear hK K2 hHeld
              refine wpAnyH_ready (rs := [6]) (by kernel_rfl) (by simp) ?_
              refine AllReadyH.cons rfl (fun K2 hK => ?_) ?_
              · go_simp
                refine HTE.out.mono ?_
                rintro e w8 ⟨rfl, o, o1, o2, o3, o4⟩
                have hr8 : w8.heap[b3]? = some (.cells (msgC { m with tag := q.tag } vn (.slice A12 m.qids.length k12) vd).toArray 47 (0, 0)) := (o4 b3 (by simp)).trans HROW6.out
                try go_simp
                refine hK.out _ _ (row_range hr8) (fun hHeld => ?_)
                clear hK K2 hHeld
                refine wpAnyH_done (by kernel_rfl) ?_ _
                have I1 := Lib.hid o1
                have I2 := Lib.hid o2
                have hgo := goOn_any (o3.keep (K' := []) (by simp)) HR.out.env (by simp)
                clear o1 o2 o3 o4 hr8
                have HGO := Lib.hid hgo
                clear hgo
                go_wp2_with fail
                refine HGO.out.mono ?_
                rintro e wg ⟨rfl, hw⟩
                have HTO := Lib.hid (took_outs (hw.cons I1.out I2.out))
                clear hw
                go_wp2_with fail
                refine HTO.out.mono ?_
                rintro e wt ⟨A, kk, cc, rfl, hd⟩
                have HD := Lib.hid hd
                clear hd
                go_wp2_with fail
                go_ret2
                rw [HY.out]
                exact ⟨A, kk, cc, rfl, HD.out⟩
              exact AllReadyH.nil
            exact AllReadyH.nil
      exact AllReadyH.nil
    · have b107 : ((m.kind : Int) != 107) = true := by simpa using (by omega : ¬ (m.kind : Int) = 107)
      have H107 := Lib.hid h107
      clear h107
      by_cases hkk : m.kind = q.kind + 1
      · have bkk : ((m.kind : Int) != ((q.kind + 1 : Nat) : Int)) = false := by rw [hkk]; simp
        have bkk2 : ((m.kind : Int) != (q.kind : Int) + 1) = false := by rw [hkk]; simp
        have HOKK : Hid (m.kind = 107 ∨ m.kind = q.kind + 1) := Lib.hid (Or.inr hkk)
        clear hkk
        go_enter Tryz.func16, Tryz.ntmps16
        go_wp2_with fail
        go_region
        go_wp2_with fail
        refine HAN.out.mono ?_
        rintro e w2 ⟨rfl, hm2⟩
        have HM2 := Lib.hid hm2
        have k0' : w2.cell? ⟨b3, 0, none⟩ = some (.int .u8 (m.kind : Int)) := by rw [cell_of_row _ _ _ _ _ _ (hm2.heap HROW.out (by simp)), ← hmc]; rfl
        clear hm2
        go_wp2_with fail
        refine (over2_any (HREL.out.still HM2.out) HQ.out).mono ?_
        rintro e w3 ⟨rfl, hrel3, hkc3, hm3⟩
        have hg3 := hkc3.cells _ _ _ _ HRBF.out (by decide) (HM2.out.heap HG0.out (by simp))
        have hth3 := ((HGTH.out.keepT (KeepT.mods (T := 0) HM2.out (by simp)).toKeepC (by decide) (by decide) (by decide) (by decide) (by decide) (by decide) (by decide)).keepT hkc3 (by decide) (by decide) (by decide) (by decide) (by decide) (by decide) (by decide)).sub (R' := R.without q.id) (fun p hp => (List.mem_filter.1 hp).1)
        have hdr3 : Mods [] w3 w3.drew := (Mods.refl [] w3).drew
        obtain ⟨kf, caps, rfl, e9, hcl⟩ := then_any (m := m) (vn := vn) (vd := vd) (A12 := A12) (k12 := k12) (hrel3.still hdr3) (hth3.keepT (KeepT.mods (T := 0) hdr3 (by simp)).toKeepC (by decide) (by decide) (by decide) (by decide) (by decide) (by decide) (by decide)) HQW.out.2.2.2.2.2.2.2.2.2.2 HQW.out.2.2.2.2.2.2.2.1 HQW.out.2.2.2.2.2.2.2.2.1
        rw [hmc] at hcl
        have hrow3 : w3.heap[b3]? = some (.cells mc 47 (0, 0)) := hm3.heap (HM2.out.heap HROW.out (by simp)) (fun hk => HB3.out b3 hk (by simp))
        have hc42 : w3.drew.cell? ⟨G.rb q.id, 42, none⟩ = some (.func (.func kf) #[] caps) := by
          rw [cell_of_row _ _ _ _ _ _ (show w3.drew.heap[G.rb q.id]? = _ from hg3)]
          exact HG.out.2.2.2.2
        rw [← hmc] at hrow3
        have hrg : w3.drew.rangeAt b3 0 (msgC m vn (.slice A12 m.qids.length k12) vd) := row_range (w := w3.drew) hrow3
        have HROW3 := Lib.hid hrow3
        have HREL3 := Lib.hid hrel3
        have HG3 := Lib.hid hg3
        have HM3 := Lib.hid (((HMD.out.trans HM2.out (by simp)).mono (G := G.F) (by simp)).trans hm3 (fun b hb => Or.inl hb))
        have HCLO := Lib.hid hcl
        have HRG := Lib.hid hrg
        clear hrel3 hkc3 hm3 hg3 hth3 hdr3 hcl hrow3 hrg
        go_wp2_with fail
        refine wp_region_held_drew (S := fun W => W.rangeAt b3 0 (msgC m vn (.slice A12 m.qids.length k12) vd) ∧ W.cell? ⟨G.rb q.id, 42, none⟩ = some (.func (.func kf) #[] caps)) (by kernel_rfl) ⟨HRG.out, hc42⟩ (fun hHeld => ?_)
        refine wpAnyH_take (i := 0) (v := ?_) rfl (by kernel_rfl) (by kernel_rfl) (by kernel_rfl) (fun _ _ _ h => h) (Or.inl ⟨by rfl, ?_⟩) hHeld ?_
        rotate_left
        · intro w hSw
          first | (go_simp; done) | (go_simp; with_reducible rfl)
        try simp only [Act.put, List.setIfInBounds_toArray]
        refine wpAnyH_take (i := 1) (v := ?_) rfl (by kernel_rfl) (by kernel_rfl) (by kernel_rfl) (fun _ _ _ h => h) (Or.inl ⟨by rfl, ?_⟩) hHeld ?_
        rotate_left
        · intro w hSw
          first | (go_simp; done) | (go_simp; with_reducible rfl)
        try simp only [Act.put]
        refine wpAnyH_take (i := 2) (v := ?_) rfl (by kernel_rfl) (by kernel_rfl) (by kernel_rfl) (fun _ _ _ h => h) (Or.inl ⟨by rfl, ?_⟩) hHeld ?_
        rotate_left
        · intro w hSw
          first | (go_simp; done) | (go_simp; with_reducible rfl)
        try simp only [Act.put]
        refine wpAnyH_take (i := 3) (v := ?_) rfl (by kernel_rfl) (by kernel_rfl) (by kernel_rfl) (fun _ _ _ h => h) (Or.inl ⟨by rfl, ?_⟩) hHeld ?_
        rotate_left
        · intro w hSw
          have hc := hSw.2
          first | (go_simp; done) | (go_simp; with_reducible rfl)
        try simp only [Act.put]
        refine wpAnyH_take (i := 4) (v := .agg (msgC m vn (.slice A12 m.qids.length k12) vd).toArray) rfl (by kernel_rfl) (by kernel_rfl) (by kernel_rfl) (fun _ _ _ h => h) ?hy3 hHeld ?hz3
        case hy3 => exact yieldsIf_load_mid rfl 47 _ rfl b3 0 rfl (msgC m vn (.slice A12 m.qids.length k12) vd) _ (fun _ h => h.1) Tryz.underlying47 rfl (info47 m vn (.slice A12 m.qids.length k12) vd)
        try simp only [Act.put]
        refine wpAnyH_ready (rs := [5]) (by kernel_rfl) (by simp) ?_
        refine AllReadyH.cons rfl (fun K2 hK => ?_) ?_
        · go_simp
          refine HCLO.out.mono ?_
          rintro e w4 ⟨rfl, hrel4, hm4, hkc4⟩
          have hrow4 : w4.heap[b3]? = some (.cells (msgC m vn (.slice A12 m.qids.length k12) vd).toArray 47 (0, 0)) := hm4.heap (show w3.drew.heap[b3]? = _ from HROW3.out) (fun hk => HB3.out b3 hk (by simp))
          have hg4 := hkc4.cells _ _ _ _ HRBF.out (by decide) (show w3.drew.heap[G.rb q.id]? = _ from HG3.out)
          have hc42' : w4.cell? ⟨G.rb q.id, 42, none⟩ = some (.func (.func kf) #[] caps) := by
            rw [cell_of_row _ _ _ _ _ _ hg4]
            exact HG.out.2.2.2.2
          try go_simp
          refine hK.out _ _ ⟨row_range hrow4, hc42'⟩ (fun hHeld => ?_)
          clear hK K2 hHeld
          refine wpAnyH_done (by kernel_rfl) ?_ _
          have HREL4 := Lib.hid hrel4
          have HPR := Lib.hid (prune2_any hrel4 (fun _ _ => rfl))
          have HROW4 := Lib.hid hrow4
          have HG4 := Lib.hid hg4
          have HM4 := Lib.hid (HM3.out.trans (show Mods G.F w3 w4 from ⟨hm4.os, hm4.tape, hm4.output, hm4.size, hm4.block⟩) (fun b hb => Or.inl hb))
          clear hrel4 hm4 hkc4 hrow4 hg4 hc42' hc42
          go_wp2_with fail
          refine HPR.out.mono ?_
          rintro e w5 ⟨rfl, hrel5, hm5, hkc5⟩
          have hrow5 : w5.heap[b3]? = some (.cells (msgC m vn (.slice A12 m.qids.length k12) vd).toArray 47 (0, 0)) := hm5.heap HROW4.out (fun hk => HB3.out b3 hk (by simp))
          have hg5 := hkc5.cells _ _ _ _ HRBF.out (by decide) HG4.out
          have hm05 := HM4.out.trans hm5 (fun b hb => Or.inl hb)
          have p37 : w5.cell? ⟨G.rb q.id, 37, none⟩ = some (.bool q.own) := by rw [cell_of_row _ _ _ _ _ _ hg5]; exact HG.out.2.1
          have p38 : w5.cell? ⟨G.rb q.id, 38, none⟩ = some (.int .u16 (q.tag : Int)) := by rw [cell_of_row _ _ _ _ _ _ hg5]; exact HG.out.2.2.1
          have p39 : w5.cell? ⟨G.rb q.id, 39, none⟩ = some (.bool q.lost) := by rw [cell_of_row _ _ _ _ _ _ hg5]; exact HG.out.2.2.2.1
          have p36 : w5.cell? ⟨G.rb q.id, 36, none⟩ = some (.int .i64 (q.client : Int)) := by rw [cell_of_row _ _ _ _ _ _ hg5]; exact HG.out.1
          have hs5 : St w G.F [b3] r ((R.without q.id).thenP q m).prune ((R.without q.id).thenP q m).prune.used G [] w5 := St.start hrel5 hm05 (fun _ hk => Or.inl hk) (fun j hj => by
            simp at hj
            subst hj
            exact ⟨(Array.getElem?_eq_some_iff.1 hrow5).1, fun hk => HB3.out _ hk (by simp)⟩)
          have HS5 := Lib.hid hs5
          have HROW5 := Lib.hid hrow5
          have HG5 := Lib.hid hg5
          have HY := Lib.hid (back_some HFD.out HOKK.out)
          clear hrel5 hm5 hkc5 hrow5 hg5 hm05 hs5
          cases eO : q.own with
          | true =>
            rw [eO] at p37
            have HO := Lib.hid eO
            clear eO
            have HTL := Lib.hid (tells_not (R := R) (m := m) (q := q) (fun h => by rw [HO.out] at h; cases h.1))
            rw [HTL.out] at HY
            have hgo := goOn_any (HS5.out.keep (K' := []) (by simp)) HR.out.env (by simp)
            have HGO := Lib.hid hgo
            clear hgo
            go_wp2_with fail
            refine HGO.out.mono ?_
            rintro e wg ⟨rfl, hw⟩
            have HTO := Lib.hid (took_outs hw.nil)
            clear hw
            go_wp2_with fail
            refine HTO.out.mono ?_
            rintro e wt ⟨A, kk, cc, rfl, hd⟩
            have HD := Lib.hid hd
            clear hd
            go_wp2_with fail
            go_ret2
            rw [HY.out]
            exact ⟨A, kk, cc, rfl, HD.out⟩
          | false =>
            rw [eO] at p37
            have HO := Lib.hid eO
            clear eO
            cases eL : q.lost with
            | true =>
              rw [eL] at p39
              have HLO := Lib.hid eL
              clear eL
              have HTL := Lib.hid (tells_not (R := R) (m := m) (q := q) (fun h => by rw [HLO.out] at h; cases h.2))
              rw [HTL.out] at HY
              have hgo := goOn_any (HS5.out.keep (K' := []) (by simp)) HR.out.env (by simp)
              have HGO := Lib.hid hgo
              clear hgo
              go_wp2_with fail
              refine HGO.out.mono ?_
              rintro e wg ⟨rfl, hw⟩
              have HTO := Lib.hid (took_outs hw.nil)
              clear hw
              go_wp2_with fail
              refine HTO.out.mono ?_
              rintro e wt ⟨A, kk, cc, rfl, hd⟩
              have HD := Lib.hid hd
              clear hd
              go_wp2_with fail
              go_ret2
              rw [HY.out]
              exact ⟨A, kk, cc, rfl, HD.out⟩
            | false =>
              rw [eL] at p39
              have HLO := Lib.hid eL
              clear eL
              have f1 : w5.frozen? ⟨b3, 1, none⟩ = false := frozen_of_row _ _ _ _ _ HROW5.out
              have d1 : w5.cell? ⟨b3, 1, none⟩ = some (.int .u16 (m.tag : Int)) := by rw [cell_of_row _ _ _ _ _ _ HROW5.out]; rfl
              have hrow6 : (w5.setCell ⟨b3, 1, none⟩ (.int .u16 (q.tag : Int))).heap[b3]? = some (.cells (msgC { m with tag := q.tag } vn (.slice A12 m.qids.length k12) vd).toArray 47 (0, 0)) := heap_setCell_same _ _ _ _ _ _ HROW5.out
              have hg6 := setOff (i := 1) HROW5.out HG5.out (by decide) (.int .u16 (q.tag : Int))
              have hs6 := HS5.out.setK (b := b3) (i := 1) (v := .int .u16 (q.tag : Int)) (by simp) HB.out
              have hmr6 : MsgR (w5.setCell ⟨b3, 1, none⟩ (.int .u16 (q.tag : Int))) { m with tag := q.tag } vn (.slice A12 m.qids.length k12) vd := by
                have := HMR.out.far hs6.mods HFAR.out
                exact ⟨this.names, this.qids, this.data⟩
              generalize hw6 : w5.setCell ⟨b3, 1, none⟩ (.int .u16 (q.tag : Int)) = w6 at *
              have k06 : w6.cell? ⟨b3, 0, none⟩ = some (.int .u8 (m.kind : Int)) := by rw [cell_of_row _ _ _ _ _ _ hrow6]; rfl
              have HROW6 := Lib.hid hrow6
              have HG6 := Lib.hid hg6
              have HS6 := Lib.hid hs6
              have HMR6 := Lib.hid hmr6
              clear hrow6 hg6 hs6 hmr6
              by_cases h113 : m.kind = 113
              · have b113 : ((m.kind : Int) == 113) = true := by rw [h113]; rfl
                have HIO : Hid (m.kind = 113 ∨ m.kind = 115) := Lib.hid (Or.inl h113)
                clear h113
                have hlive := HQW.out.2.2.2.2.2.2.2.2.2.1 HO.out HLO.out
                obtain ⟨kc, hkc⟩ : ∃ kc : Nat, q.client = kc + 1 := ⟨q.client - 1, by have := HQW.out.2.2.2.1; omega⟩
                have hcn : 1 ≤ kc + 1 ∧ kc + 1 ≤ R.clients.length := by
                  rw [← hkc]
                  exact ⟨HQW.out.2.2.2.1, HQW.out.2.2.2.2.1⟩
                have hdr6 : Mods [] w6 w6.drew := (Mods.refl [] w6).drew
                have hcl5 : ((R.without q.id).thenP q m).prune.clients = R.clients := thenP_clients (R.without q.id) q m
                obtain ⟨vo6, hr6, -⟩ := (HS6.out.still hdr6).ex
                have hci := client_in hr6 kc (by rw [hcl5]; omega)
                rw [show ((kc + 1 : Nat) : Int) = (q.client : Int) from by rw [hkc]] at hci
                have HCI := Lib.hid hci
                have cm : w6.drew.cell? ⟨G.cb kc, 0, none⟩ = some (.int .u32 ((R.cli q.client).msize : Int)) := by
                  have := (HS6.out.still hdr6).msize (n := kc + 1) (by rw [hcl5]; exact hcn)
                  have e : ((R.without q.id).thenP q m).prune.cli (kc + 1) = R.cli q.client := by
                    unfold RelP.cli
                    rw [hcl5, hkc]
                  rw [e] at this
                  exact this
                have k17 : w6.drew.cell? ⟨b3, 17, none⟩ = some (.int .u32 (m.iounit : Int)) := by rw [cell_of_row _ _ _ _ _ _ (show w6.drew.heap[b3]? = _ from HROW6.out)]; rfl
                have f17 : w6.drew.frozen? ⟨b3, 17, none⟩ = false := frozen_of_row _ _ _ _ _ (show w6.drew.heap[b3]? = _ from HROW6.out)
                have p366 : w6.drew.cell? ⟨G.rb q.id, 36, none⟩ = some (.int .i64 (q.client : Int)) := by rw [cell_of_row _ _ _ _ _ _ (show w6.drew.heap[G.rb q.id]? = _ from HG6.out)]; exact HG.out.1
                have hms := hlive.1
                have hms2 : (R.cli q.client).msize < 4294967296 := by
                  have h2 := (HR.out.rel.wf.cli _ (List.mem_of_getElem? (cli_at (n := q.client) ⟨HQW.out.2.2.2.1, HQW.out.2.2.2.2.1⟩))).2.1
                  have h3 := HR.out.rel.wf.msize.2
                  omega
                have hsub : IntKind.u32.wrap (((R.cli q.client).msize : Int) - 24) = (((R.cli q.client).msize - 24 : Nat) : Int) := by
                  have : ((((R.cli q.client).msize - 24 : Nat) : Nat) : Int) = ((R.cli q.client).msize : Int) - 24 := by omega
                  rw [this]
                  simp [IntKind.wrap, IntKind.signed, IntKind.bits]
                  omega
                have hrow7 : (w6.setCell ⟨b3, 17, none⟩ (.int .u32 ((min m.iounit ((R.cli q.client).msize - 24) : Nat) : Int))).drew.heap[b3]? = some (.cells (msgC { m with tag := q.tag, iounit := min m.iounit ((R.cli q.client).msize - 24) } vn (.slice A12 m.qids.length k12) vd).toArray 47 (0, 0)) := heap_setCell_same _ _ _ _ _ _ HROW6.out
                have hg7 := setOff (i := 17) HROW6.out HG6.out (by decide) (.int .u32 ((min m.iounit ((R.cli q.client).msize - 24) : Nat) : Int))
                have hs7 := (HS6.out.setK (b := b3) (i := 17) (v := .int .u32 ((min m.iounit ((R.cli q.client).msize - 24) : Nat) : Int)) (by simp) HB.out).still ((Mods.refl [] _).drew)
                have hmr7 : MsgR (w6.setCell ⟨b3, 17, none⟩ (.int .u32 ((min m.iounit ((R.cli q.client).msize - 24) : Nat) : Int))).drew { m with tag := q.tag, iounit := min m.iounit ((R.cli q.client).msize - 24) } vn (.slice A12 m.qids.length k12) vd := by
                  have := HMR.out.far hs7.mods HFAR.out
                  exact ⟨this.names, this.qids, this.data⟩
                have HROW7 := Lib.hid hrow7
                have HG7 : Hid ((w6.setCell ⟨b3, 17, none⟩ (.int .u32 ((min m.iounit ((R.cli q.client).msize - 24) : Nat) : Int))).drew.heap[G.rb q.id]? = some (.cells cs 115 (0, 0))) := Lib.hid hg7
                have HS7 := Lib.hid hs7
                have HMR7 := Lib.hid hmr7
                clear hr6 hci hcl5 hdr6 hrow7 hg7 hs7 hmr7 hlive hkc hcn
                go_upto_region 13 with fail
                go_cut [84] from 72 (fun v wx => wx = (w6.setCell ⟨b3, 17, none⟩ (.int .u32 (min (m.iounit : Int) (((R.cli q.client).msize - 24 : Nat) : Int)))).drew)
                case first =>
                  go_region_law (first | (go_simp; go_at_call 27; refine HCI.out.mono ?_; rintro e wq ⟨rfl, rfl⟩; go_simp))
                  all_goals (go_wp2_with fail; go_meet; exact rfl)
                case rest =>
                  subst hcut
                  rw [show min (m.iounit : Int) (((R.cli q.client).msize - 24 : Nat) : Int) = ((min m.iounit ((R.cli q.client).msize - 24) : Nat) : Int) from by omega]
                  generalize hw7 : (w6.setCell ⟨b3, 17, none⟩ (.int .u32 ((min m.iounit ((R.cli q.client).msize - 24) : Nat) : Int))).drew = w7 at *
                  clear k17 f17 cm
                  have HTLS := Lib.hid (tells_io (R := R) (m := m) (q := q) ⟨HO.out, HLO.out⟩ HIO.out)
                  rw [HTLS.out] at HY
                  have hdr : Mods [] w7 w7.drew := (Mods.refl [] w7).drew
                  have HTE := Lib.hid (tells_any (HS7.out.still hdr) q.client { m with tag := q.tag, iounit := min m.iounit ((R.cli q.client).msize - 24) } HSM.out.lists (HMR7.out.mods hdr) HP.out (by simp))
                  have HRGX := Lib.hid (show w7.drew.rangeAt b3 0 (msgC { m with tag := q.tag, iounit := min m.iounit ((R.cli q.client).msize - 24) } vn (.slice A12 m.qids.length k12) vd) from row_range (w := w7.drew) HROW7.out)
                  have p36x : w7.drew.cell? ⟨G.rb q.id, 36, none⟩ = some (.int .i64 (q.client : Int)) := by
                    rw [cell_of_row _ _ _ _ _ _ (show w7.drew.heap[G.rb q.id]? = _ from HG7.out)]
                    exact HG.out.1
                  clear hdr
                  go_wp2_with fail
                  refine wp_region_held_drew (S := fun W => W.rangeAt b3 0 (msgC { m with tag := q.tag, iounit := min m.iounit ((R.cli q.client).msize - 24) } vn (.slice A12 m.qids.length k12) vd)) (by kernel_rfl) HRGX.out (fun hHeld => ?_)
                  refine wpAnyH_take (i := 0) (v := ?_) rfl (by kernel_rfl) (by kernel_rfl) (by kernel_rfl) (fun _ _ _ h => h) (Or.inl ⟨by rfl, ?_⟩) hHeld ?_
                  rotate_left
                  · intro w hSw
                    first | (go_simp; done) | (go_simp; with_reducible rfl)
                  try simp only [Act.put, List.setIfInBounds_toArray]
                  refine wpAnyH_take (i := 1) (v := ?_) rfl (by kernel_rfl) (by kernel_rfl) (by kernel_rfl) (fun _ _ _ h => h) (Or.inl ⟨by rfl, ?_⟩) hHeld ?_
                  rotate_left
                  · intro w hSw
                    first | (go_simp; done) | (go_simp; with_reducible rfl)
                  try simp only [Act.put]
                  refine wpAnyH_take (i := 2) (v := ?_) rfl (by kernel_rfl) (by kernel_rfl) (by kernel_rfl) (fun _ _ _ h => h) (Or.inl ⟨by rfl, ?_⟩) hHeld ?_
                  rotate_left
                  · intro w hSw
                    first | (go_simp; done) | (go_simp; with_reducible rfl)
                  try simp only [Act.put]
                  refine wpAnyH_take (i := 3) (v := ?_) rfl (by kernel_rfl) (by kernel_rfl) (by kernel_rfl) (fun _ _ _ h => h) (Or.inl ⟨by rfl, ?_⟩) hHeld ?_
                  rotate_left
                  · intro w hSw
                    first | (go_simp; done) | (go_simp; with_reducible rfl)
                  try simp only [Act.put]
                  refine wpAnyH_take (i := 5) (v := .agg (msgC { m with tag := q.tag, iounit := min m.iounit ((R.cli q.client).msize - 24) } vn (.slice A12 m.qids.length k12) vd).toArray) rfl (by kernel_rfl) (by kernel_rfl) (by kernel_rfl) (fun _ _ _ h => h) ?hy4 hHeld ?hz4
                  case hy4 => exact yieldsIf_load_mid rfl 47 _ rfl b3 0 rfl (msgC { m with tag := q.tag, iounit := min m.iounit ((R.cli q.client).msize - 24) } vn (.slice A12 m.qids.length k12) vd) _ (fun _ h => h) Tryz.underlying47 rfl (info47 { m with tag := q.tag, iounit := min m.iounit ((R.cli q.client).msize - 24) } vn (.slice A12 m.qids.length k12) vd)
                  try simp only [Act.put]
                  refine wpAnyH_ready (rs := [4]) (by kernel_rfl) (by simp) ?_
                  refine AllReadyH.cons rfl (fun K2 hK => ?_) ?_
                  · go_simp
                    refine hK.out _ _ HRGX.out (fun hHeld => ?_)
                    clear hK K2 hHeld
                    refine wpAnyH_ready (rs := [6]) (by kernel_rfl) (by simp) ?_
                    refine AllReadyH.cons rfl (fun K2 hK => ?_) ?_
                    · go_simp
                      refine HTE.out.mono ?_
                      rintro e w8 ⟨rfl, o, o1, o2, o3, o4⟩
                      have hr8 : w8.heap[b3]? = some (.cells (msgC { m with tag := q.tag, iounit := min m.iounit ((R.cli q.client).msize - 24) } vn (.slice A12 m.qids.length k12) vd).toArray 47 (0, 0)) := (o4 b3 (by simp)).trans HROW7.out
                      try go_simp
                      refine hK.out _ _ (row_range hr8) (fun hHeld => ?_)
                      clear hK K2 hHeld
                      refine wpAnyH_done (by kernel_rfl) ?_ _
                      have I1 := Lib.hid o1
                      have I2 := Lib.hid o2
                      have hgo := goOn_any (o3.keep (K' := []) (by simp)) HR.out.env (by simp)
                      clear o1 o2 o3 o4 hr8
                      have HGO := Lib.hid hgo
                      clear hgo
                      go_wp2_with fail
                      refine HGO.out.mono ?_
                      rintro e wg ⟨rfl, hw⟩
                      have HTO := Lib.hid (took_outs (hw.cons I1.out I2.out))
                      clear hw
                      go_wp2_with fail
                      refine HTO.out.mono ?_
                      rintro e wt ⟨A, kk, cc, rfl, hd⟩
                      have HD := Lib.hid hd
                      clear hd
                      go_wp2_with fail
                      go_ret2
                      rw [HY.out]
                      exact ⟨A, kk, cc, rfl, HD.out⟩
                    exact AllReadyH.nil
                  exact AllReadyH.nil
              · have b113 : ((m.kind : Int) == 113) = false := by simpa using (by omega : ¬ (m.kind : Int) = 113)
                by_cases h115 : m.kind = 115
                · have b115 : ((m.kind : Int) == 115) = true := by rw [h115]; rfl
                  have HIO : Hid (m.kind = 113 ∨ m.kind = 115) := Lib.hid (Or.inr h115)
                  clear h113 h115
                  have hlive := HQW.out.2.2.2.2.2.2.2.2.2.1 HO.out HLO.out
                  obtain ⟨kc, hkc⟩ : ∃ kc : Nat, q.client = kc + 1 := ⟨q.client - 1, by have := HQW.out.2.2.2.1; omega⟩
                  have hcn : 1 ≤ kc + 1 ∧ kc + 1 ≤ R.clients.length := by
                    rw [← hkc]
                    exact ⟨HQW.out.2.2.2.1, HQW.out.2.2.2.2.1⟩
                  have hdr6 : Mods [] w6 w6.drew := (Mods.refl [] w6).drew
                  have hcl5 : ((R.without q.id).thenP q m).prune.clients = R.clients := thenP_clients (R.without q.id) q m
                  obtain ⟨vo6, hr6, -⟩ := (HS6.out.still hdr6).ex
                  have hci := client_in hr6 kc (by rw [hcl5]; omega)
                  rw [show ((kc + 1 : Nat) : Int) = (q.client : Int) from by rw [hkc]] at hci
                  have HCI := Lib.hid hci
                  have cm : w6.drew.cell? ⟨G.cb kc, 0, none⟩ = some (.int .u32 ((R.cli q.client).msize : Int)) := by
                    have := (HS6.out.still hdr6).msize (n := kc + 1) (by rw [hcl5]; exact hcn)
                    have e : ((R.without q.id).thenP q m).prune.cli (kc + 1) = R.cli q.client := by
                      unfold RelP.cli
                      rw [hcl5, hkc]
                    rw [e] at this
                    exact this
                  have k17 : w6.drew.cell? ⟨b3, 17, none⟩ = some (.int .u32 (m.iounit : Int)) := by rw [cell_of_row _ _ _ _ _ _ (show w6.drew.heap[b3]? = _ from HROW6.out)]; rfl
                  have f17 : w6.drew.frozen? ⟨b3, 17, none⟩ = false := frozen_of_row _ _ _ _ _ (show w6.drew.heap[b3]? = _ from HROW6.out)
                  have p366 : w6.drew.cell? ⟨G.rb q.id, 36, none⟩ = some (.int .i64 (q.client : Int)) := by rw [cell_of_row _ _ _ _ _ _ (show w6.drew.heap[G.rb q.id]? = _ from HG6.out)]; exact HG.out.1
                  have hms := hlive.1
                  have hms2 : (R.cli q.client).msize < 4294967296 := by
                    have h2 := (HR.out.rel.wf.cli _ (List.mem_of_getElem? (cli_at (n := q.client) ⟨HQW.out.2.2.2.1, HQW.out.2.2.2.2.1⟩))).2.1
                    have h3 := HR.out.rel.wf.msize.2
                    omega
                  have hsub : IntKind.u32.wrap (((R.cli q.client).msize : Int) - 24) = (((R.cli q.client).msize - 24 : Nat) : Int) := by
                    have : ((((R.cli q.client).msize - 24 : Nat) : Nat) : Int) = ((R.cli q.client).msize : Int) - 24 := by omega
                    rw [this]
                    simp [IntKind.wrap, IntKind.signed, IntKind.bits]
                    omega
                  have hrow7 : (w6.setCell ⟨b3, 17, none⟩ (.int .u32 ((min m.iounit ((R.cli q.client).msize - 24) : Nat) : Int))).drew.heap[b3]? = some (.cells (msgC { m with tag := q.tag, iounit := min m.iounit ((R.cli q.client).msize - 24) } vn (.slice A12 m.qids.length k12) vd).toArray 47 (0, 0)) := heap_setCell_same _ _ _ _ _ _ HROW6.out
                  have hg7 := setOff (i := 17) HROW6.out HG6.out (by decide) (.int .u32 ((min m.iounit ((R.cli q.client).msize - 24) : Nat) : Int))
                  have hs7 := (HS6.out.setK (b := b3) (i := 17) (v := .int .u32 ((min m.iounit ((R.cli q.client).msize - 24) : Nat) : Int)) (by simp) HB.out).still ((Mods.refl [] _).drew)
                  have hmr7 : MsgR (w6.setCell ⟨b3, 17, none⟩ (.int .u32 ((min m.iounit ((R.cli q.client).msize - 24) : Nat) : Int))).drew { m with tag := q.tag, iounit := min m.iounit ((R.cli q.client).msize - 24) } vn (.slice A12 m.qids.length k12) vd := by
                    have := HMR.out.far hs7.mods HFAR.out
                    exact ⟨this.names, this.qids, this.data⟩
                  have HROW7 := Lib.hid hrow7
                  have HG7 : Hid ((w6.setCell ⟨b3, 17, none⟩ (.int .u32 ((min m.iounit ((R.cli q.client).msize - 24) : Nat) : Int))).drew.heap[G.rb q.id]? = some (.cells cs 115 (0, 0))) := Lib.hid hg7
                  have HS7 := Lib.hid hs7
                  have HMR7 := Lib.hid hmr7
                  clear hr6 hci hcl5 hdr6 hrow7 hg7 hs7 hmr7 hlive hkc hcn
                  go_upto_region 13 with fail
                  go_cut [84] from 72 (fun v wx => wx = (w6.setCell ⟨b3, 17, none⟩ (.int .u32 (min (m.iounit : Int) (((R.cli q.client).msize - 24 : Nat) : Int)))).drew)
                  case first =>
                    go_region_law (first | (go_simp; go_at_call 27; refine HCI.out.mono ?_; rintro e wq ⟨rfl, rfl⟩; go_simp))
                    all_goals (go_wp2_with fail; go_meet; exact rfl)
                  case rest =>
                    subst hcut
                    rw [show min (m.iounit : Int) (((R.cli q.client).msize - 24 : Nat) : Int) = ((min m.iounit ((R.cli q.client).msize - 24) : Nat) : Int) from by omega]
                    generalize hw7 : (w6.setCell ⟨b3, 17, none⟩ (.int .u32 ((min m.iounit ((R.cli q.client).msize - 24) : Nat) : Int))).drew = w7 at *
                    clear k17 f17 cm
                    have HTLS := Lib.hid (tells_io (R := R) (m := m) (q := q) ⟨HO.out, HLO.out⟩ HIO.out)
                    rw [HTLS.out] at HY
                    have hdr : Mods [] w7 w7.drew := (Mods.refl [] w7).drew
                    have HTE := Lib.hid (tells_any (HS7.out.still hdr) q.client { m with tag := q.tag, iounit := min m.iounit ((R.cli q.client).msize - 24) } HSM.out.lists (HMR7.out.mods hdr) HP.out (by simp))
                    have HRGX := Lib.hid (show w7.drew.rangeAt b3 0 (msgC { m with tag := q.tag, iounit := min m.iounit ((R.cli q.client).msize - 24) } vn (.slice A12 m.qids.length k12) vd) from row_range (w := w7.drew) HROW7.out)
                    have p36x : w7.drew.cell? ⟨G.rb q.id, 36, none⟩ = some (.int .i64 (q.client : Int)) := by
                      rw [cell_of_row _ _ _ _ _ _ (show w7.drew.heap[G.rb q.id]? = _ from HG7.out)]
                      exact HG.out.1
                    clear hdr
                    go_wp2_with fail
                    refine wp_region_held_drew (S := fun W => W.rangeAt b3 0 (msgC { m with tag := q.tag, iounit := min m.iounit ((R.cli q.client).msize - 24) } vn (.slice A12 m.qids.length k12) vd)) (by kernel_rfl) HRGX.out (fun hHeld => ?_)
                    refine wpAnyH_take (i := 0) (v := ?_) rfl (by kernel_rfl) (by kernel_rfl) (by kernel_rfl) (fun _ _ _ h => h) (Or.inl ⟨by rfl, ?_⟩) hHeld ?_
                    rotate_left
                    · intro w hSw
                      first | (go_simp; done) | (go_simp; with_reducible rfl)
                    try simp only [Act.put, List.setIfInBounds_toArray]
                    refine wpAnyH_take (i := 1) (v := ?_) rfl (by kernel_rfl) (by kernel_rfl) (by kernel_rfl) (fun _ _ _ h => h) (Or.inl ⟨by rfl, ?_⟩) hHeld ?_
                    rotate_left
                    · intro w hSw
                      first | (go_simp; done) | (go_simp; with_reducible rfl)
                    try simp only [Act.put]
                    refine wpAnyH_take (i := 2) (v := ?_) rfl (by kernel_rfl) (by kernel_rfl) (by kernel_rfl) (fun _ _ _ h => h) (Or.inl ⟨by rfl, ?_⟩) hHeld ?_
                    rotate_left
                    · intro w hSw
                      first | (go_simp; done) | (go_simp; with_reducible rfl)
                    try simp only [Act.put]
                    refine wpAnyH_take (i := 3) (v := ?_) rfl (by kernel_rfl) (by kernel_rfl) (by kernel_rfl) (fun _ _ _ h => h) (Or.inl ⟨by rfl, ?_⟩) hHeld ?_
                    rotate_left
                    · intro w hSw
                      first | (go_simp; done) | (go_simp; with_reducible rfl)
                    try simp only [Act.put]
                    refine wpAnyH_take (i := 5) (v := .agg (msgC { m with tag := q.tag, iounit := min m.iounit ((R.cli q.client).msize - 24) } vn (.slice A12 m.qids.length k12) vd).toArray) rfl (by kernel_rfl) (by kernel_rfl) (by kernel_rfl) (fun _ _ _ h => h) ?hy5 hHeld ?hz5
                    case hy5 => exact yieldsIf_load_mid rfl 47 _ rfl b3 0 rfl (msgC { m with tag := q.tag, iounit := min m.iounit ((R.cli q.client).msize - 24) } vn (.slice A12 m.qids.length k12) vd) _ (fun _ h => h) Tryz.underlying47 rfl (info47 { m with tag := q.tag, iounit := min m.iounit ((R.cli q.client).msize - 24) } vn (.slice A12 m.qids.length k12) vd)
                    try simp only [Act.put]
                    refine wpAnyH_ready (rs := [4]) (by kernel_rfl) (by simp) ?_
                    refine AllReadyH.cons rfl (fun K2 hK => ?_) ?_
                    · go_simp
                      refine hK.out _ _ HRGX.out (fun hHeld => ?_)
                      clear hK K2 hHeld
                      refine wpAnyH_ready (rs := [6]) (by kernel_rfl) (by simp) ?_
                      refine AllReadyH.cons rfl (fun K2 hK => ?_) ?_
                      · go_simp
                        refine HTE.out.mono ?_
                        rintro e w8 ⟨rfl, o, o1, o2, o3, o4⟩
                        have hr8 : w8.heap[b3]? = some (.cells (msgC { m with tag := q.tag, iounit := min m.iounit ((R.cli q.client).msize - 24) } vn (.slice A12 m.qids.length k12) vd).toArray 47 (0, 0)) := (o4 b3 (by simp)).trans HROW7.out
                        try go_simp
                        refine hK.out _ _ (row_range hr8) (fun hHeld => ?_)
                        clear hK K2 hHeld
                        refine wpAnyH_done (by kernel_rfl) ?_ _
                        have I1 := Lib.hid o1
                        have I2 := Lib.hid o2
                        have hgo := goOn_any (o3.keep (K' := []) (by simp)) HR.out.env (by simp)
                        clear o1 o2 o3 o4 hr8
                        have HGO := Lib.hid hgo
                        clear hgo
                        go_wp2_with fail
                        refine HGO.out.mono ?_
                        rintro e wg ⟨rfl, hw⟩
                        have HTO := Lib.hid (took_outs (hw.cons I1.out I2.out))
                        clear hw
                        go_wp2_with fail
                        refine HTO.out.mono ?_
                        rintro e wt ⟨A, kk, cc, rfl, hd⟩
                        have HD := Lib.hid hd
                        clear hd
                        go_wp2_with fail
                        go_ret2
                        rw [HY.out]
                        exact ⟨A, kk, cc, rfl, HD.out⟩
                      exact AllReadyH.nil
                    exact AllReadyH.nil
                · have b115 : ((m.kind : Int) == 115) = false := by simpa using (by omega : ¬ (m.kind : Int) = 115)
                  have HNIO : Hid (¬ (m.kind = 113 ∨ m.kind = 115)) := Lib.hid (by omega)
                  clear h113 h115
                  have HTLS := Lib.hid (tells_plain (R := R) (m := m) (q := q) ⟨HO.out, HLO.out⟩ (HNIO.out))
                  rw [HTLS.out] at HY
                  have hdr : Mods [] w6 w6.drew := (Mods.refl [] w6).drew
                  have HTE := Lib.hid (tells_any (HS6.out.still hdr) q.client { m with tag := q.tag } HSM.out.lists (HMR6.out.mods hdr) HP.out (by simp))
                  have HRGX := Lib.hid (show w6.drew.rangeAt b3 0 (msgC { m with tag := q.tag } vn (.slice A12 m.qids.length k12) vd) from row_range (w := w6.drew) HROW6.out)
                  have p36x : w6.drew.cell? ⟨G.rb q.id, 36, none⟩ = some (.int .i64 (q.client : Int)) := by
                    rw [cell_of_row _ _ _ _ _ _ (show w6.drew.heap[G.rb q.id]? = _ from HG6.out)]
                    exact HG.out.1
                  clear hdr
                  go_wp2_with fail
                  refine wp_region_held_drew (S := fun W => W.rangeAt b3 0 (msgC { m with tag := q.tag } vn (.slice A12 m.qids.length k12) vd)) (by kernel_rfl) HRGX.out (fun hHeld => ?_)
                  refine wpAnyH_take (i := 0) (v := ?_) rfl (by kernel_rfl) (by kernel_rfl) (by kernel_rfl) (fun _ _ _ h => h) (Or.inl ⟨by rfl, ?_⟩) hHeld ?_
                  rotate_left
                  · intro w hSw
                    first | (go_simp; done) | (go_simp; with_reducible rfl)
                  try simp only [Act.put, List.setIfInBounds_toArray]
                  refine wpAnyH_take (i := 1) (v := ?_) rfl (by kernel_rfl) (by kernel_rfl) (by kernel_rfl) (fun _ _ _ h => h) (Or.inl ⟨by rfl, ?_⟩) hHeld ?_
                  rotate_left
                  · intro w hSw
                    first | (go_simp; done) | (go_simp; with_reducible rfl)
                  try simp only [Act.put]
                  refine wpAnyH_take (i := 2) (v := ?_) rfl (by kernel_rfl) (by kernel_rfl) (by kernel_rfl) (fun _ _ _ h => h) (Or.inl ⟨by rfl, ?_⟩) hHeld ?_
                  rotate_left
                  · intro w hSw
                    first | (go_simp; done) | (go_simp; with_reducible rfl)
                  try simp only [Act.put]
                  refine wpAnyH_take (i := 3) (v := ?_) rfl (by kernel_rfl) (by kernel_rfl) (by kernel_rfl) (fun _ _ _ h => h) (Or.inl ⟨by rfl, ?_⟩) hHeld ?_
                  rotate_left
                  · intro w hSw
                    first | (go_simp; done) | (go_simp; with_reducible rfl)
                  try simp only [Act.put]
                  refine wpAnyH_take (i := 5) (v := .agg (msgC { m with tag := q.tag } vn (.slice A12 m.qids.length k12) vd).toArray) rfl (by kernel_rfl) (by kernel_rfl) (by kernel_rfl) (fun _ _ _ h => h) ?hy6 hHeld ?hz6
                  case hy6 => exact yieldsIf_load_mid rfl 47 _ rfl b3 0 rfl (msgC { m with tag := q.tag } vn (.slice A12 m.qids.length k12) vd) _ (fun _ h => h) Tryz.underlying47 rfl (info47 { m with tag := q.tag } vn (.slice A12 m.qids.length k12) vd)
                  try simp only [Act.put]
                  refine wpAnyH_ready (rs := [4]) (by kernel_rfl) (by simp) ?_
                  refine AllReadyH.cons rfl (fun K2 hK => ?_) ?_
                  · go_simp
                    refine hK.out _ _ HRGX.out (fun hHeld => ?_)
                    clear hK K2 hHeld
                    refine wpAnyH_ready (rs := [6]) (by kernel_rfl) (by simp) ?_
                    refine AllReadyH.cons rfl (fun K2 hK => ?_) ?_
                    · go_simp
                      refine HTE.out.mono ?_
                      rintro e w8 ⟨rfl, o, o1, o2, o3, o4⟩
                      have hr8 : w8.heap[b3]? = some (.cells (msgC { m with tag := q.tag } vn (.slice A12 m.qids.length k12) vd).toArray 47 (0, 0)) := (o4 b3 (by simp)).trans HROW6.out
                      try go_simp
                      refine hK.out _ _ (row_range hr8) (fun hHeld => ?_)
                      clear hK K2 hHeld
                      refine wpAnyH_done (by kernel_rfl) ?_ _
                      have I1 := Lib.hid o1
                      have I2 := Lib.hid o2
                      have hgo := goOn_any (o3.keep (K' := []) (by simp)) HR.out.env (by simp)
                      clear o1 o2 o3 o4 hr8
                      have HGO := Lib.hid hgo
                      clear hgo
                      go_wp2_with fail
                      refine HGO.out.mono ?_
                      rintro e wg ⟨rfl, hw⟩
                      have HTO := Lib.hid (took_outs (hw.cons I1.out I2.out))
                      clear hw
                      go_wp2_with fail
                      refine HTO.out.mono ?_
                      rintro e wt ⟨A, kk, cc, rfl, hd⟩
                      have HD := Lib.hid hd
                      clear hd
                      go_wp2_with fail
                      go_ret2
                      rw [HY.out]
                      exact ⟨A, kk, cc, rfl, HD.out⟩
                    exact AllReadyH.nil
                  exact AllReadyH.nil
        exact AllReadyH.nil
      · have bkk : ((m.kind : Int) != ((q.kind + 1 : Nat) : Int)) = true := by simpa using (by omega : ¬ (m.kind : Int) = q.kind + 1)
        have bkk2 : ((m.kind : Int) != (q.kind : Int) + 1) = true := by simpa using (by omega : ¬ (m.kind : Int) = q.kind + 1)
        have HY := Lib.hid (back_wrong HFD.out H107.out hkk)
        clear hkk
        go_enter Tryz.func16, Tryz.ntmps16
        go_wp2_with fail
        go_region
        go_wp2_with fail
        refine HAN.out.mono ?_
        rintro e w2 ⟨rfl, hm2⟩
        have HM2 := Lib.hid hm2
        have k0' : w2.cell? ⟨b3, 0, none⟩ = some (.int .u8 (m.kind : Int)) := by rw [cell_of_row _ _ _ _ _ _ (hm2.heap HROW.out (by simp)), ← hmc]; rfl
        clear hm2
        go_wp2_with fail
        go_ret2
        rw [HY.out]
        exact ⟨none, 0, 0, rfl, done_none HR.out.rel (HMD.out.trans HM2.out (by simp))⟩
end
end Go.Proofs.YtlgoeipgmjcboaaGreatDoor
