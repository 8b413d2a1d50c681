/- The walk of WireBack. (Printed by wip/bin/genwb.py.) -/
import Derived.Test.YtedddekkbgaolaaDoorWc
import Derived.Deep.CutBlock
namespace Go.Proofs.YtedddekkbgaolaaDoor
open Go.RowKit Me

set_option maxRecDepth 100000 in
set_option maxHeartbeats 4000000 in
theorem wback_any {w : World} (hT : Lib.Utf8Tabs 0 1 w) (L : List (OpP × Value)) {vl : Value} (hL : Ops w vl L) (hI : ∀ p ∈ L, OpIn w p) (hll : L.length ≤ 70000000000000) :
    Calls Tryd.prog 9 #[vl] w fun e w' => e = .returned (.bool true) ∧ Mods [] w w' := by
  have HT := Lib.hid hT
  have HL := Lib.hid hL
  have HI := Lib.hid hI
  obtain ⟨Al, cl, rfl, hlc, hcm⟩ := hL
  clear hT hI
  go_enter Tryd.func9, Tryd.ntmps9
  go_upto_if 15 with fail
  go_cut [0] from 13 (fun v0 w' => w' = w ∧ ∃ L' : List (OpP × Value), L'.length ≤ 60000 ∧ Ops w v0 L' ∧ ∀ p ∈ L', OpIn w p)
  case first =>
    by_cases hl : L.length ≤ 60000
    · go_wp2_with fail
      go_meet
      case rel => exact ⟨rfl, L, hl, HL.out, HI.out⟩
    · unfold maxLen at hcm
      go_wp2_with fail
      go_meet
      case rel => exact ⟨rfl, L.take 60000, by simp; omega, HL.out.take 60000 (by omega), fun p hp => HI.out p (List.mem_of_mem_take hp)⟩
  case rest =>
    obtain ⟨hwc, L', hl, hL', hI'⟩ := hcut
    have hwc' := hwc.symm
    subst hwc'
    clear hwc
    clear HL HI hlc hcm hll
    have HL := Lib.hid hL'
    have HI := Lib.hid hI'
    obtain ⟨A, c, rfl, hlc, hcm⟩ := hL'
    clear hI'
    go_wp2_with fail
    refine (newWriter_ok 60000 w (by omega)).mono ?_; rintro e w1 ⟨rfl, h1, m1⟩
    obtain ⟨a, ha⟩ : ∃ a, a = w.heap.size := ⟨_, rfl⟩
    have HW1 : Hid (WOff 122 w.heap.size w1 a (WSt.new 60000) []) := Lib.hid (by rw [ha]; exact WOff.new h1 (by simp [foot, Value.ownBlock]))
    have HM1 := Lib.hid m1
    rw [← ha]
    clear h1 m1 ha
    go_upto_block 0 with fail
    go_cut [5, 6, 7] from 8 (fun lv pv n w' => StB w a 120000 lv pv n w')
    case first =>
      go_wp2_with fail
      go_loopw [5, 6, 7, 8] (fun lv pv n i wr => RelB w a L'.length lv pv n i wr) (fun _ _ _ i _ => L'.length - (intOf i).toNat)
      case atStart => exact ⟨0, by omega, rfl, [], WSt.new 60000, rfl, by simp [WSt.new], by simp, Wrote.new, HM1.out, World.ownsRow_nil _ _ _ _, World.ownsRow_nil _ _ _ _, by simpa [rowB, Value.ownBlock] using HW1.out⟩
      case round =>
        obtain ⟨k, hk, rfl, M, S, rfl, hc, hMI, hWr, hm, hlv, hpv, hW⟩ := hrel
        have HMI := Lib.hid hMI
        have HWR := Lib.hid hWr
        have HM := Lib.hid hm
        have HLV := Lib.hid hlv
        have HPV := Lib.hid hpv
        have HW := Lib.hid hW
        obtain ⟨Av, cv, rfl⟩ := own_ctor hlv
        obtain ⟨Ap, cp, rfl⟩ := own_ctor hpv
        have hnb : S.bytes.length ≤ 60000 := hWr.fits
        clear hMI hWr hm hlv hpv hW
        rcases Nat.lt_or_ge k L'.length with hlt | hge
        · obtain ⟨⟨o, vo⟩, hp⟩ : ∃ p, L'[k]? = some p := ⟨_, List.getElem?_eq_getElem hlt⟩
          obtain ⟨g, off, rfl, hrg⟩ := (HL.out.mods HM.out).at k (o, vo) hp
          have hin := HI.out (o, vo) (List.mem_of_getElem? hp)
          obtain ⟨Ab, cb, hvo, -⟩ := rd_slice hin.2
          simp only at hvo
          subst hvo
          have HIN0 := Lib.hid hin
          have HIN := Lib.hid (hin.mods HM.out)
          clear hin
          have hsz : o.size ≤ 140737488355330 := o.size_le HIN.out.1
          obtain ⟨c0, c1, c2, c3, c4, c5⟩ := op_cells hrg
          have HSZ := Lib.hid (opsize_any o HIN.out.1 HIN.out.2)
          have HRG := Lib.hid hrg
          clear hp hrg
          go_wp2_with fail
          refine HSZ.out.mono ?_; rintro e w2 ⟨rfl, hm2⟩
          have HM2 := Lib.hid (HM.out.trans hm2 (by simp))
          have HLV2 := Lib.hid (ownsRow_mods HLV.out hm2 (by simp))
          have HPV2 := Lib.hid (ownsRow_mods HPV.out hm2 (by simp))
          have HW2 := Lib.hid (HW.out.still hm2)
          obtain ⟨d0, d1, d2, d3, d4, d5⟩ := op_cells (rangeAt_mods HRG.out hm2 (by simp))
          clear c0 c1 c2 c3 c4 c5 hm2
          by_cases hfit : S.bytes.length + o.size ≤ 60000
          · go_wp2_with fail
            have hC := Cur.start HM2.out HLV2.out HPV2.out HW2.out o (.slice Ab o.b.length cb)
            have HC3 : Hid (Cur w a _ _ w2.heap.size o (.slice Ab o.b.length cb) M S.opens S (w2.alloc (.cells #[.int .i64 o.who, .int .i64 o.kind, .int .u64 (o.n : Int), .int .i64 o.k, .slice Ab o.b.length cb, .string o.s] 48))) := Lib.hid hC
            clear hC d0 d1 d2 d3 d4 d5
            generalize w2.alloc (.cells #[.int .i64 o.who, .int .i64 o.kind, .int .u64 (o.n : Int), .int .i64 o.k, .slice Ab o.b.length cb, .string o.s] 48) = w3 at *
            generalize w2.heap.size = B at *
            have HOI := Lib.hid (fun (w' : World) (hm : Mods [] w w') => HIN0.out.mods hm)
            refine (opsize_any o (HOI.out _ HC3.out.1).1 (HOI.out _ HC3.out.1).2).mono ?_; rintro e w4 ⟨rfl, hm4⟩
            have HC4 := Lib.hid (HC3.out.still hm4)
            clear hm4
            obtain ⟨e0, e1, e2, e3, e4, e5⟩ := box_cells HC4.out.2.2.2.1
            go_wp2_with fail
            refine (HC4.out.call fun vb vo' hi => lays_any (tabs_mods HC4.out.1 HT.out) hi o (HOI.out _ HC4.out.1).1 (HOI.out _ HC4.out.1).2).mono ?_; rintro e w5 ⟨rfl, hC5⟩
            have HC5 := Lib.hid hC5
            clear e0 e1 e2 e3 e4 e5
            obtain ⟨e0, e1, e2, e3, e4, e5⟩ := box_cells hC5.2.2.2.1
            clear hC5
            by_cases h7 : o.kind = 7
            · have k7 : (o.kind == 7) = true := by simp [h7]
              have k8 : (o.kind == 8) = false := by rw [h7]; rfl
              have hs2 : o.size = 2 := by unfold OpP.size; rw [if_neg (by omega), if_neg (by omega), if_pos h7]
              have hWo := HWR.out.opn h7 (by omega)
              have HWO := Lib.hid hWo
              have hC5 := HC5.out
              rw [lays_none (Or.inl h7)] at hC5
              have HC5b := Lib.hid hC5
              have hne : ((S.opn.2 : Int) != (S.bytes.length : Int) + (o.size : Int) - 2) = false := by rw [hWo.2.1, hs2]; simp
              have HS2 := Lib.hid hs2
              clear h7 hs2 hWo hC5
              go_wp2_with fail
              refine (HC5b.out.call fun vb vo' hi => open_any hi).mono ?_; rintro e w6 ⟨rfl, hC6⟩
              have HC6 := Lib.hid hC6
              clear e0 e1 e2 e3 e4 e5
              obtain ⟨e0, e1, e2, e3, e4, e5⟩ := box_cells hC6.2.2.2.1
              clear hC6
              obtain ⟨i3, hi3, hz30, hz31, hz32⟩ := info_parts info3
              go_wp2_with (at_builtin; go_must (refine wpList_app _ rfl _ _ 25 25 rfl w.heap.size 3 i3 (.int .i64 0) 1 8 Tryd.underlying25 hi3 hz30 hz31 hz32 rfl _ _ _ rfl (HC6.out.2.2.1.alloc _) _ 1 [.int .i64 (S.opn.2 : Int)] rfl ?c1 ?c2 ?c3 ?c4 ?_))
              case c1 => exact src_one Tryd.underlying25 _ _ _ rfl
              case c2 => unfold maxLen; omega
              case c3 => omega
              case c4 => have := HC6.out.1.size; simp; omega
              intro pv2 w7 hown hgrow hat
              have hC7 := HC6.out.places hown (p := S.opn.2) rfl hgrow (by simpa using hat)
              have HC7 := Lib.hid hC7
              obtain ⟨Aq, cq, rfl⟩ := own_ctor hown
              clear hC7 hown hgrow hat hne
              clear e0 e1 e2 e3 e4 e5
              obtain ⟨e0, e1, e2, e3, e4, e5⟩ := box_cells HC7.out.2.2.2.1
              obtain ⟨i0, hi, hz0, hz1, hz2⟩ := info_parts info48b
              have hMl : M.length ≤ 120000 := by omega
              go_wp2_with (at_builtin; go_must (refine wpList_app _ rfl _ _ 30 30 rfl w.heap.size 48 i0 _ 6 72 Tryd.underlying30 hi hz0 hz1 hz2 rfl _ _ _ rfl (HC7.out.2.1.alloc _) _ 1 (opC o (.slice Ab o.b.length cb)) rfl ?c1 ?c2 ?c3 ?c4 ?_))
              case c1 => exact src_op _ o _ rfl
              case c2 => unfold maxLen; omega
              case c3 => omega
              case c4 => have := HC7.out.1.size; simp; omega
              intro lv2 w9 hown hgrow hat
              have hR : StB w a (2 * (k + 1)) lv2 _ (.int .i64 ((S.opn.1.bytes.length : Nat) : Int)) w9 := HC7.out.next (by rw [HWO.out.2.2.2, HWO.out.2.1]) hown hgrow (by simpa using hat) HMI.out HIN0.out HWO.out.1 (by simp; omega)
              rw [show ((S.opn.1.bytes.length : Nat) : Int) = (S.bytes.length : Int) + (o.size : Int) by have := HWO.out.2.2.1; have := HS2.out; omega] at hR
              have HR : Hid (RelB w a L'.length lv2 _ (.int .i64 ((S.bytes.length : Int) + (o.size : Int))) (.int .i64 ((k : Int) + 1)) w9) := Lib.hid ⟨k + 1, by omega, rfl, hR⟩
              obtain ⟨A9, c9, rfl⟩ := own_ctor hown
              clear hR hown hgrow hat
              go_wp2_with fail
              exact ⟨HR.out, by simp only [intOf]; omega⟩
            · by_cases h8 : o.kind = 8
              · have k7 : (o.kind == 7) = false := by rw [h8]; rfl
                have k8 : (o.kind == 8) = true := by simp [h8]
                have hs0 : o.size = 0 := by unfold OpP.size; rw [if_neg (by omega), if_neg (by omega), if_neg (by omega), if_neg (by omega), if_neg (by omega), if_neg (by omega), if_neg (by omega)]
                have HS0 := Lib.hid hs0
                have hC5 := HC5.out
                rw [lays_none (Or.inr h8)] at hC5
                have HC5b := Lib.hid hC5
                rcases List.eq_nil_or_concat S.opens with ho | ⟨os, p, ho⟩
                · have hR : StB w a (2 * (k + 1)) (.slice Av M.length cv) (.slice Ap S.opens.length cp) (.int .i64 ((S.bytes.length : Int) + (o.size : Int))) w5 := by
                    rw [show (S.bytes.length : Int) + (o.size : Int) = (S.bytes.length : Int) by omega]
                    exact ⟨M, S, rfl, by omega, HMI.out, HWR.out, hC5.1, hC5.2.1, hC5.2.2.1, hC5.2.2.2.2.sub (fun k hk => List.mem_cons_of_mem _ hk)⟩
                  have HR : Hid (RelB w a L'.length (.slice Av M.length cv) (.slice Ap S.opens.length cp) (.int .i64 ((S.bytes.length : Int) + (o.size : Int))) (.int .i64 ((k : Int) + 1)) w5) := Lib.hid ⟨k + 1, by omega, rfl, hR⟩
                  have hol : S.opens.length = 0 := by rw [ho]; rfl
                  clear hR hC5 h8 hs0 ho h7
                  generalize S.opens.length = sl at *
                  subst hol
                  go_wp2_with fail
                  exact ⟨HR.out, by simp only [intOf]; omega⟩
                · rw [List.concat_eq_append] at ho
                  have hWs := HWR.out.shut h8 os p ho
                  have HWS := Lib.hid hWs
                  rw [ho] at hC5
                  have HC5c := Lib.hid hC5
                  have hol : S.opens.length = os.length + 1 := by rw [ho]; simp
                  have hpv := hC5.2.2.1
                  obtain ⟨gp, rfl⟩ : ∃ gp, Ap = some ⟨gp, 0, none⟩ := by
                    rcases ownsRow_form hpv with ⟨_, h1, _⟩ | ⟨g', c', h1, _⟩
                    · simp at h1
                    · injection h1 with h1 _ _
                      exact ⟨g', h1⟩
                  have hcp : os.length ≤ cp := by
                    obtain ⟨_, _, e, h1, _⟩ := ownsRow_slice hpv
                    injection e with _ e2 e3
                    simp at h1
                    omega
                  have htop : w5.cell? ⟨gp, os.length, none⟩ = some (.int .i64 (p : Int)) := by
                    have := hpv.cells rfl os.length (intV p) (by simp)
                    simpa [Addr.add_lit, intV] using this
                  have HOL := Lib.hid hol
                  clear hC5 h8 hs0 ho h7 hWs hpv hol
                  rw [HOL.out] at hc ⊢
                  go_wp2_with fail
                  refine (HC5c.out.call fun vb vo' hi => shut_any hi (p : Int)).mono ?_; rintro e w6 ⟨rfl, hC6⟩
                  have HC6 := Lib.hid hC6.pop
                  clear htop hC6 e0 e1 e2 e3 e4 e5
                  obtain ⟨e0, e1, e2, e3, e4, e5⟩ := box_cells HC6.out.2.2.2.1
                  clear e0 e1 e2 e3 e4 e5
                  obtain ⟨e0, e1, e2, e3, e4, e5⟩ := box_cells HC6.out.2.2.2.1
                  obtain ⟨i0, hi, hz0, hz1, hz2⟩ := info_parts info48b
                  have hMl : M.length ≤ 120000 := by omega
                  go_wp2_with (at_builtin; go_must (refine wpList_app _ rfl _ _ 30 30 rfl w.heap.size 48 i0 _ 6 72 Tryd.underlying30 hi hz0 hz1 hz2 rfl _ _ _ rfl (HC6.out.2.1.alloc _) _ 1 (opC o (.slice Ab o.b.length cb)) rfl ?c1 ?c2 ?c3 ?c4 ?_))
                  case c1 => exact src_op _ o _ rfl
                  case c2 => unfold maxLen; omega
                  case c3 => omega
                  case c4 => have := HC6.out.1.size; simp; omega
                  intro lv2 w9 hown hgrow hat
                  have hR : StB w a (2 * (k + 1)) lv2 _ (.int .i64 (((S.shut (p : Int)).bytes.length : Nat) : Int)) w9 := HC6.out.next HWS.out.2.2 hown hgrow (by simpa using hat) HMI.out HIN0.out HWS.out.1 (by omega)
                  rw [show (((S.shut (p : Int)).bytes.length : Nat) : Int) = (S.bytes.length : Int) + (o.size : Int) by have := HWS.out.2.1; have := HS0.out; omega] at hR
                  have HR : Hid (RelB w a L'.length lv2 _ (.int .i64 ((S.bytes.length : Int) + (o.size : Int))) (.int .i64 ((k : Int) + 1)) w9) := Lib.hid ⟨k + 1, by omega, rfl, hR⟩
                  obtain ⟨A9, c9, rfl⟩ := own_ctor hown
                  clear hR hown hgrow hat
                  go_wp2_with fail
                  exact ⟨HR.out, by simp only [intOf]; omega⟩
              · have k7 : (o.kind == 7) = false := by simpa using h7
                have k8 : (o.kind == 8) = false := by simpa using h8
                have hWl := HWR.out.leaf HIN0.out.1.n h7 h8 hfit
                have HWL := Lib.hid hWl
                clear h7 h8 hWl
                clear e0 e1 e2 e3 e4 e5
                obtain ⟨e0, e1, e2, e3, e4, e5⟩ := box_cells HC5.out.2.2.2.1
                obtain ⟨i0, hi, hz0, hz1, hz2⟩ := info_parts info48b
                have hMl : M.length ≤ 120000 := by omega
                go_wp2_with (at_builtin; go_must (refine wpList_app _ rfl _ _ 30 30 rfl w.heap.size 48 i0 _ 6 72 Tryd.underlying30 hi hz0 hz1 hz2 rfl _ _ _ rfl (HC5.out.2.1.alloc _) _ 1 (opC o (.slice Ab o.b.length cb)) rfl ?c1 ?c2 ?c3 ?c4 ?_))
                case c1 => exact src_op _ o _ rfl
                case c2 => unfold maxLen; omega
                case c3 => omega
                case c4 => have := HC5.out.1.size; simp; omega
                intro lv2 w9 hown hgrow hat
                have hR : StB w a (2 * (k + 1)) lv2 _ (.int .i64 (((S.lays o).bytes.length : Nat) : Int)) w9 := HC5.out.next HWL.out.2.2 hown hgrow (by simpa using hat) HMI.out HIN0.out HWL.out.1 (by omega)
                rw [show (((S.lays o).bytes.length : Nat) : Int) = (S.bytes.length : Int) + (o.size : Int) by have := HWL.out.2.1; omega] at hR
                have HR : Hid (RelB w a L'.length lv2 _ (.int .i64 ((S.bytes.length : Int) + (o.size : Int))) (.int .i64 ((k : Int) + 1)) w9) := Lib.hid ⟨k + 1, by omega, rfl, hR⟩
                obtain ⟨A9, c9, rfl⟩ := own_ctor hown
                clear hR hown hgrow hat
                go_wp2_with fail
                exact ⟨HR.out, by simp only [intOf]; omega⟩
          · have HSx : Hid (StB w a 120000 (.slice Av M.length cv) (.slice Ap S.opens.length cp) (.int .i64 (S.bytes.length : Int)) w2) := Lib.hid ⟨M, S, rfl, by omega, HMI.out, HWR.out, HM2.out, HLV2.out, HPV2.out, HW2.out⟩
            go_wp2_with fail
            go_meet
            case rel => exact HSx.out
        · obtain rfl : k = L'.length := by omega
          have HS : Hid (StB w a 120000 (.slice Av M.length cv) (.slice Ap S.opens.length cp) (.int .i64 (S.bytes.length : Int)) wr) := Lib.hid ⟨M, S, rfl, by omega, HMI.out, HWR.out, HM.out, HLV.out, HPV.out, HW.out⟩
          go_wp2_with fail
          go_meet
          case rel => exact HS.out
    case rest =>
      obtain ⟨M0, S0, hn0, -⟩ := id hcut
      obtain ⟨n0, rfl⟩ : ∃ n0 : Nat, _ = Value.int .i64 (n0 : Int) := ⟨_, hn0⟩
      have HS1 := Lib.hid hcut
      clear hn0 hcut HL HI HW1 HM1 M0 S0
      go_wp2_with fail
      go_loopw [5, 6] (fun lv pv wr => StB w a 120000 lv pv (.int .i64 (n0 : Int)) wr) (fun _ pv _ => lenOf pv)
      case atStart => exact HS1.out
      case round =>
        obtain ⟨M, S, hn, hc, hMI, hWr, hm, hlv, hpv, hW⟩ := hrel
        have HC1 : Hid (Cu0 w a _ _ M S.opens S wr) := Lib.hid ⟨hm, hlv, hpv, hW⟩
        have HMI := Lib.hid hMI
        have HWR := Lib.hid hWr
        obtain ⟨Av, cv, rfl⟩ := own_ctor hlv
        obtain ⟨Ap, cp, rfl⟩ := own_ctor hpv
        have hnb : S.bytes.length ≤ 60000 := hWr.fits
        have hn1 : n0 = S.bytes.length := by
          injection hn with _ hn
          omega
        subst hn1
        clear hn hMI hWr hm hlv hpv hW HS1
        rcases List.eq_nil_or_concat S.opens with ho | ⟨os, p, ho⟩
        · have hWd := HWR.out.done ho
          obtain ⟨vb, vo, hi, -⟩ := HC1.out.2.2.2
          have hd := done_any hi
          rw [hWd.1] at hd
          have HD := Lib.hid hd
          have HI := Lib.hid hi
          have HOK := Lib.hid hWd.2
          have hol : S.opens.length = 0 := by rw [ho]; rfl
          have HOL := Lib.hid hol
          clear hWd hd hi ho hol
          rw [HOL.out] at hc ⊢
          go_wp2_with fail
          refine HD.out.mono ?_; rintro e w2 ⟨v, rfl, ho2, hm2⟩
          have HM2 := Lib.hid hm2
          have HO2 := Lib.hid ho2
          have HI2 := Lib.hid (HI.out.mods hm2 (by simp))
          obtain ⟨A2, c2, rfl⟩ := own_ctor ho2
          clear ho2 hm2
          simp only at *
          go_wp2_with fail
          refine (len_any HI2.out).mono ?_; rintro e w3 ⟨rfl, rfl⟩
          go_wp2_with fail
          refine (again_any (tabs_mods (HC1.out.1.trans HM2.out (by simp)) HT.out) S.bytes (Rd.of_own HO2.out) hnb M ((Ops.of_own HC1.out.2.1 rfl).mods HM2.out) (by omega) (fun p hp => ((HMI.out p hp).mods HC1.out.1).mods HM2.out) HOK.out).mono ?_; rintro e w4 ⟨rfl, hm4⟩
          have HM4 := Lib.hid ((HC1.out.1.trans HM2.out (by simp)).trans hm4 (by simp))
          clear hm4
          go_wp2_with fail
          go_ret
          exact ⟨rfl, HM4.out⟩
        · rw [List.concat_eq_append] at ho
          have hWs := HWR.out.shut (s := ⟨0, 8, 0, 0, [], ⟨#[]⟩⟩) rfl os p ho
          have HWS := Lib.hid hWs
          have hC := HC1.out
          rw [ho] at hC
          have HC2 := Lib.hid hC
          have hol : S.opens.length = os.length + 1 := by rw [ho]; simp
          have hpv := hC.2.2.1
          obtain ⟨gp, rfl⟩ : ∃ gp, Ap = some ⟨gp, 0, none⟩ := by
            rcases ownsRow_form hpv with ⟨_, h1, _⟩ | ⟨g', c', h1, _⟩
            · simp at h1
            · injection h1 with h1 _ _
              exact ⟨g', h1⟩
          have hcp : os.length ≤ cp := by
            obtain ⟨_, _, e, h1, _⟩ := ownsRow_slice hpv
            injection e with _ e2 e3
            simp at h1
            omega
          have htop : wr.cell? ⟨gp, os.length, none⟩ = some (.int .i64 (p : Int)) := by
            have := hpv.cells rfl os.length (intV p) (by simp)
            simpa [Addr.add_lit, intV] using this
          have HOL := Lib.hid hol
          clear hC ho hWs hpv hol
          rw [HOL.out] at hc ⊢
          go_wp2_with fail
          refine (HC2.out.call fun vb vo' hi => shut_any hi (p : Int)).mono ?_; rintro e w6 ⟨rfl, hC6⟩
          have HC6 := Lib.hid hC6.pop
          clear htop hC6
          obtain ⟨i0, hi, hz0, hz1, hz2⟩ := info_parts info48b
          go_wp2_with (at_builtin; go_must (refine wpList_app _ rfl _ _ 30 30 rfl w.heap.size 48 i0 _ 6 72 Tryd.underlying30 hi hz0 hz1 hz2 rfl _ _ _ rfl (HC6.out.2.1.alloc _) _ 1 (opC ⟨0, 8, 0, 0, [], ⟨#[]⟩⟩ (.slice none 0 0)) rfl ?c1 ?c2 ?c3 ?c4 ?_))
          case c1 => exact src_op _ _ _ rfl
          case c2 => unfold maxLen; omega
          case c3 => omega
          case c4 => have := HC6.out.1.size; simp; omega
          intro lv2 w9 hown hgrow hat
          have hR : StB w a 120000 lv2 _ (.int .i64 (((S.shut (p : Int)).bytes.length : Nat) : Int)) w9 := HC6.out.next HWS.out.2.2 hown hgrow (by simpa using hat) HMI.out shut_in HWS.out.1 (by omega)
          rw [HWS.out.2.1] at hR
          have HR := Lib.hid hR
          obtain ⟨A9, c9, rfl⟩ := own_ctor hown
          clear hR hown hgrow hat
          go_wp2_with fail
          exact ⟨HR.out, by simp [lenOf]⟩
end Go.Proofs.YtedddekkbgaolaaDoor

