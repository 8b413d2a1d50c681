/- DumpDiffs, walked: its last two loops; the whole. -/
import Derived.Test.YtmcekhgmmocajaaGreatDoorDt
namespace Go.Proofs.YtmcekhgmmocajaaGreatDoor
open Go.RowKit Me Go.BigFrame

set_option maxRecDepth 100000 in
set_option maxHeartbeats 8000000 in
theorem diffs_dd : diffs_d.1 := by
  intro w Q0 L1 A1 c1 A7 c7 u8 u22 u23 u24 u25 u26 u27 u28 u29 u30 u31 u32 u33 u34 u35 u36 u37 u38 u39 u40 u41 u42 u43 u44 u45 u46 u47 u48 u49 u50 u51 u52 u53 u54 u55 u56 u57 u58 u59 u60 u61 u62 u63 u64 u65 u66 u67 u68 u69 u70 u71 u72 u73 u74 u75 u76 u77 u78 u79 u80 u81 u82 u83 u84 u85 u86 u87 u88 u89 u90 u91 u92 u93 u94 u95 u96 u97 u98 u99 u100 u101 u102 u103 u104 u105 u106 u107 u108 u109 u110 u111 u112 u113 u227 u228 u229 u230 u231 u232 u233 u234 u235 u236 u237 u238 u239 u240 u241 u242 u243 u244 u245 u246 u247 u248 u249 u250 u251 u252 u253 u254 u255 u256 u257 u258 u259 u260 u261 u262 u263 u264 u265 u266 u267 u268 u269 u270 u271 u272 u273 u274 u275 M1 hy1 hy2 B1 d1 B7 d7 a b A9 c9 Aa ca Ab cb wd HMd HN1d HN2d Ad cd X hXl wr u4 u16 u17 u114 u115 u116 u117 u118 u119 u120 u121 u122 u123 u124 u125 u126 u127 u128 u129 u130 u131 u132 u133 u134 u135 u136 u137 u138 u139 u140 u141 u142 u143 u144 u145 u146 u147 u148 u149 u150 u151 u152 u153 u154 u155 u156 u157 u158 u159 u160 u161 u162 u163 u164 u165 u166 u167 u168 u169 u170 u171 u172 u173 u174 u175 u176 u177 u178 u179 u180 u181 u182 u183 u184 u185 u186 u187 u188 u189 u190 u191 u192 u193 u194 u195 u196 u197 u198 u199 u200 u201 u202 u203 u204 u205 u206 u207 u208 u209 u210 u211 u212 u213 u214 u215 u216 u217 u218 u219 u220 u221 u222 u223 u224 u225 u226 HR HLN2 Ky hKy
  go_loopw [18, 19] (fun n i wr => RelN1 wd L1 M1 n i wr) (fun _ i _ => L1.length - (intOf i).toNat)
  case atStart => exact ⟨0, by omega, rfl, rfl, HR.out⟩
  case round =>
    clear HR
    obtain ⟨k, hk, rfl, rfl, hm⟩ := hrel
    have HR := Lib.hid hm
    rcases Nat.lt_or_ge k L1.length with hlt | hge
    · obtain ⟨e, hs⟩ : ∃ e, L1[k]? = some e := ⟨_, List.getElem?_eq_getElem hlt⟩
      obtain ⟨ga, oa, va, ea, ra, da⟩ := (HN1d.out wr hm).at hs
      subst ea
      have HP := Lib.hid (place_any M1 e.path (HN2d.out wr hm))
      have c0 := (range_ent ra).1
      have hTK : ((L1.take (k + 1)).filterMap (chg1E M1)).length = ((L1.take k).filterMap (chg1E M1)).length + (chg1E M1 e).toList.length := by
        rw [List.take_add_one, hs, List.filterMap_append, List.length_append]
        congr 1
      have HTK := Lib.hid hTK
      have hxl := chs_len M1 L1 k
      rcases place_find M1 e.path with ⟨h1, h2⟩ | ⟨k1, f, h1, h2, h3⟩
      · have hc : chg1E M1 e = some (e.path, true, false) := by simp only [Dg.chg1, h1]
        rw [hc] at HTK
        rw [h2] at HP
        clear h1 h2 hc hTK hm hs ra da
        generalize ((L1.take k).filterMap (chg1E M1)).length = n at *
        go_wp2_with fail
        refine HP.out.mono ?_
        rintro x w1 ⟨rfl, rfl⟩
        go_wp2_with fail
        refine wp_region_quiet (C := InC w1) (by kernel_rfl) (by kernel_rfl) (InC.drew w1) ?_
        dsimp only [List.toList_toArray, List.append]
        repeat (first | go_big_quiet_skip | (go_big_quiet_want; go_big_quiet_op; first | go_big_quiet_on | (apply Exists.intro; refine ⟨fun w' hw' => ?_, ?_⟩; (first | rfl | exact ⟨rfl, rfl⟩); go_big_quiet_on)))
        refine wpQuiet_nil ?_
        intro w6 hw6
        have HR6 := Lib.hid (HR.out.trans hw6 (by simp))
        clear hw6
        go_wp2_with fail
        refine ⟨⟨k + 1, by omega, ?_, rfl, HR6.out⟩, by simp only [intOf]; omega⟩
        rw [HTK.out]
        rfl
      · have hc : chg1E M1 e = if sameE e f then none else some (e.path, true, true) := by simp only [Dg.chg1, h1]
        rw [h3] at HP
        have hl2 := (List.getElem?_eq_some_iff.1 h2).1
        obtain ⟨gb, ob, vb, eb, rb, db⟩ := (HN2d.out wr hm).at h2
        subst eb
        have HAL := Lib.hid (fun w' (hw : InC wr w') => lalike_any e f va vb w' (da.mods hw (by simp)) (db.mods hw (by simp)))
        rw [entV_agg, entV_agg] at HAL
        have HRA := Lib.hid (fun w' (hw : InC wr w') => range_mods ra hw (by simp))
        have HRB := Lib.hid (fun w' (hw : InC wr w') => range_mods rb hw (by simp))
        have hk0 : decide ((k1 : Int) < 0) = false := decide_eq_false (by omega)
        have HCC := Lib.hid hc
        clear h1 h2 h3 hTK hm hs ra da rb db hc
        generalize hn : ((L1.take k).filterMap (chg1E M1)).length = n at *
        clear hn
        go_wp2_with fail
        refine HP.out.mono ?_
        rintro x w1 ⟨rfl, rfl⟩
        go_wp2_with fail
        refine wp_region_quiet (C := InC w1) (by kernel_rfl) (by kernel_rfl) (InC.drew w1) ?_
        dsimp only [List.toList_toArray, List.append]
        repeat (first | go_big_quiet_skip | (go_big_quiet_want; go_big_quiet_op; first | go_big_quiet_on | (apply Exists.intro; refine ⟨fun w' hw' => ?_, ?_⟩; (first | rfl | exact ⟨rfl, rfl⟩); go_big_quiet_on)))
        refine wpQuiet_step (fun K hK => ?_)
        go_simp
        refine ⟨.agg (entC e va).toArray, fun w' hw' => ?_, hK _ ?_⟩
        · obtain ⟨r0, r1, r2, r3, r4⟩ := range_ent (HRA.out w' hw')
          simp only [r0, r1, r2, r3, r4, Result.andThen]
          exact ⟨trivial, rfl⟩
        clear hK K
        refine wpQuiet_step (fun K hK => ?_)
        go_simp
        refine ⟨_, fun _ _ => rfl, hK _ ?_⟩
        clear hK K
        repeat (first | go_big_quiet_skip | (go_big_quiet_want; go_big_quiet_op; first | go_big_quiet_on | (apply Exists.intro; refine ⟨fun w' hw' => ?_, ?_⟩; (first | rfl | exact ⟨rfl, rfl⟩); go_big_quiet_on)))
        refine wpQuiet_step (fun K hK => ?_)
        go_simp
        refine ⟨.agg (entC f vb).toArray, fun w' hw' => ?_, hK _ ?_⟩
        · obtain ⟨r0, r1, r2, r3, r4⟩ := range_ent (HRB.out w' hw')
          simp only [r0, r1, r2, r3, r4, Result.andThen]
          exact ⟨trivial, rfl⟩
        clear hK K
        refine wpQuiet_step (fun K hK => ?_)
        go_simp
        refine ⟨.bool (sameE e f), fun w' hw' => (HAL.out w' hw').mono fun _ _ hh => ⟨hh.1, Mods.trans hw' hh.2 (by simp)⟩, hK _ ?_⟩
        clear hK K
        iterate 2
          refine wpQuiet_step (fun K hK => ?_)
          go_simp
          refine ⟨_, fun _ _ => rfl, hK _ ?_⟩
          clear hK K
        refine wpQuiet_nil ?_
        intro w6 hw6
        have HR6 := Lib.hid (HR.out.trans hw6 (by simp))
        clear hw6 HAL HRA HRB
        cases hq : sameE e f
        · rw [hq, if_neg (by decide)] at HCC
          rw [HCC.out] at HTK
          clear hq
          go_wp2_with fail
          refine ⟨⟨k + 1, by omega, ?_, rfl, HR6.out⟩, by simp only [intOf]; omega⟩
          rw [HTK.out]
          rfl
        · rw [hq, if_pos rfl] at HCC
          rw [HCC.out] at HTK
          clear hq
          go_wp2_with fail
          refine ⟨⟨k + 1, by omega, ?_, rfl, HR6.out⟩, by simp only [intOf]; omega⟩
          rw [HTK.out]
          rfl
    · obtain rfl : k = L1.length := by omega
      rw [List.take_length]
      have hxl := chs_len M1 L1 L1.length
      rw [List.take_length] at hxl
      clear hm hge hk
      generalize hn : (L1.filterMap (chg1E M1)).length = n at *
      clear hn
      go_wp2_with fail
      go_loopw [18, 21] (fun v i wr => RelN2 wd L1 M1 n v i wr) (fun _ i _ => M1.length - (intOf i).toNat)
      case atStart => exact ⟨0, by omega, rfl, rfl, HR.out⟩
      case round =>
        clear HR
        obtain ⟨k, hk, rfl, rfl, hm⟩ := hrel
        have HR := Lib.hid hm
        have hxl2 : ((M1.take k).filterMap (chg2E L1)).length ≤ M1.length := Nat.le_trans (List.length_filterMap_le _ _) (by rw [List.length_take]; omega)
        rcases Nat.lt_or_ge k M1.length with hlt | hge
        · obtain ⟨e, hs⟩ : ∃ e, M1[k]? = some e := ⟨_, List.getElem?_eq_getElem hlt⟩
          obtain ⟨ga, oa, va, ea, ra, da⟩ := (HN2d.out wr hm).at hs
          subst ea
          have HP := Lib.hid (place_any L1 e.path (HN1d.out wr hm))
          have c0 := (range_ent ra).1
          have hTK : ((M1.take (k + 1)).filterMap (chg2E L1)).length = ((M1.take k).filterMap (chg2E L1)).length + (chg2E L1 e).toList.length := by
            rw [List.take_add_one, hs, List.filterMap_append, List.length_append]
            congr 1
          have HTK := Lib.hid hTK
          rcases place_find L1 e.path with ⟨h1, h2⟩ | ⟨k1, f, h1, h2, h3⟩
          · have hc : chg2E L1 e = some (e.path, false, true) := by simp only [Dg.chg2, h1]
            rw [hc] at HTK
            rw [h2] at HP
            clear h1 h2 hc hTK hm hs ra da
            generalize ((M1.take k).filterMap (chg2E L1)).length = q at *
            go_wp2_with fail
            refine HP.out.mono ?_
            rintro x w1 ⟨rfl, rfl⟩
            go_wp2_with fail
            refine ⟨⟨k + 1, by omega, ?_, rfl, HR.out⟩, by simp only [intOf]; omega⟩
            rw [HTK.out]
            rfl
          · have hc : chg2E L1 e = none := by simp only [Dg.chg2, h1]
            rw [hc] at HTK
            rw [h3] at HP
            have hk0 : decide ((k1 : Int) < 0) = false := decide_eq_false (by omega)
            clear h1 h2 h3 hc hTK hm hs ra da
            generalize ((M1.take k).filterMap (chg2E L1)).length = q at *
            go_wp2_with fail
            refine HP.out.mono ?_
            rintro x w1 ⟨rfl, rfl⟩
            go_wp2_with fail
            refine ⟨⟨k + 1, by omega, ?_, rfl, HR.out⟩, by simp only [intOf]; omega⟩
            rw [HTK.out]
            rfl
        · obtain rfl : k = M1.length := by omega
          rw [List.take_length] at *
          have hfin : n + (M1.filterMap (chg2E L1)).length = X.length := HLN2.out
          clear hm hge hk
          generalize (M1.filterMap (chg2E L1)).length = q at *
          have hfin2 : ((n : Int) + (q : Int)) = (X.length : Int) := by omega
          go_wp2_with fail
          go_ret
          exact ⟨by simp [hfin2], HMd.out.trans HR.out (by simp)⟩
theorem diffs_cc : diffs_c.1 := diffs_d.2 (Lib.hid diffs_dd)
theorem diffs_any {w : World} (L M : List EntP) {v u : Value} (h1 : Ents w v L) (h2 : Ents w u M) (f1 : ∀ e ∈ L, e.Fits) (f2 : ∀ e ∈ M, e.Fits)
    (z1 : ∀ e ∈ L, e.path.size ≤ 140737488355328 ∧ e.gid.size ≤ 140737488355328 ∧ e.data.length ≤ 140737488355328) (z2 : ∀ e ∈ M, e.path.size ≤ 140737488355328 ∧ e.gid.size ≤ 140737488355328 ∧ e.data.length ≤ 140737488355328) (hT : Tabs w) :
    Calls Tryz.prog 5 #[v, u] w fun x w' => x = .returned (.bool true) ∧ Mods [] w w' := diffs_c.2 (Lib.hid diffs_cc) w L M v u h1 h2 f1 f2 z1 z2 hT
end Go.Proofs.YtmcekhgmmocajaaGreatDoor
