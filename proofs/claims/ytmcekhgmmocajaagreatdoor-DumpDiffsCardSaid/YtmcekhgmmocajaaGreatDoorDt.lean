/- DumpDiffs, walked: its loops. -/
import Derived.Test.YtmcekhgmmocajaaGreatDoorDs
namespace Go.Proofs.YtmcekhgmmocajaaGreatDoor
open Go.RowKit Me Go.BigFrame

theorem place_find (M : List EntP) (s : ByteArray) : ((M.find? fun b => decide (b.path = s)) = none ∧ placeN M s = -1) ∨ ∃ (k : Nat) (f : EntP), (M.find? fun b => decide (b.path = s)) = some f ∧ M[k]? = some f ∧ placeN M s = k := by
  cases hf : M.find? fun b => decide (b.path = s) with
  | none =>
    refine Or.inl ⟨rfl, place_none fun j e he => ?_⟩
    have := List.find?_eq_none.1 hf e (List.mem_of_getElem? he)
    simpa using this
  | some f =>
    obtain ⟨h1, xs, ys, h2, h3⟩ := List.find?_eq_some_iff_append.1 hf
    have hk : M[xs.length]? = some f := by rw [h2]; simp
    refine Or.inr ⟨xs.length, f, rfl, hk, place_at hk (of_decide_eq_true h1) fun j e he hj => ?_⟩
    rw [h2, List.getElem?_append_left hj] at he
    simpa using h3 e (List.mem_of_getElem? he)
theorem place_mem {M : List EntP} {s : ByteArray} {e : EntP} (h : e ∈ M) (he : e.path = s) : 0 ≤ placeN M s := by
  rcases place_find M s with ⟨h1, -⟩ | ⟨k, f, -, -, h1⟩
  · have := List.find?_eq_none.1 h1 e h
    exact absurd he (by simpa using this)
  · omega
theorem place_was {L M : List EntP} {p : ByteArray} {was is : Bool} (h : Dg.Tells EntP.path sameE L M (p, was, is)) : decide (0 ≤ placeN L p) = was ∧ decide (0 ≤ placeN M p) = is := by
  have hno : ∀ {N : List EntP} {s : ByteArray}, (∀ e ∈ N, e.path ≠ s) → decide (0 ≤ placeN N s) = false := fun {N s} hn => by
    rw [place_none fun j e he => hn e (List.mem_of_getElem? he)]
    rfl
  rcases h with ⟨a, ha, hn, e⟩ | ⟨a, ha, b, hb, hp, hs, e⟩ | ⟨b, hb, hn, e⟩
  · cases e
    exact ⟨decide_eq_true (place_mem ha rfl), hno hn⟩
  · cases e
    exact ⟨decide_eq_true (place_mem ha rfl), decide_eq_true (place_mem hb hp.symm)⟩
  · cases e
    exact ⟨hno hn, decide_eq_true (place_mem hb rfl)⟩
/-- A path that is told twice: its two entries are unlike. -/
theorem place_both {L M : List EntP} (sL : SrtE L) (sM : SrtE M) {p : ByteArray} (h : Dg.Tells EntP.path sameE L M (p, true, true)) : ∃ (j k : Nat) (e f : EntP), placeN L p = j ∧ placeN M p = k ∧ L[j]? = some e ∧ M[k]? = some f ∧ sameE e f = false := by
  rcases h with ⟨a, ha, hn, e⟩ | ⟨a, ha, b, hb, hp, hs, e⟩ | ⟨b, hb, hn, e⟩
  · cases e
  · cases e
    rcases place_find L a.path with ⟨h1, -⟩ | ⟨j, x, h1, h2, h3⟩
    · have := List.find?_eq_none.1 h1 a ha
      simp at this
    rcases place_find M a.path with ⟨k1, -⟩ | ⟨k, y, k1, k2, k3⟩
    · have := List.find?_eq_none.1 k1 b hb
      exact absurd hp.symm (by simpa using this)
    have e1 := List.find?_some h1
    have e2 := List.find?_some k1
    simp only [decide_eq_true_eq] at e1 e2
    obtain rfl := sL.uniq cmpP_ord (List.mem_of_getElem? h2) ha e1
    obtain rfl := sM.uniq cmpP_ord (List.mem_of_getElem? k2) hb (e2.trans hp)
    exact ⟨j, k, x, y, h3, k3, h2, k2, hs⟩
  · cases e
def RelN1 (w : World) (L M : List EntP) (n i : Value) (wr : World) : Prop := ∃ k : Nat, k ≤ L.length ∧ n = .int .i64 ((((L.take k).filterMap (chg1E M)).length : Nat) : Int) ∧ i = .int .i64 k ∧ Mods [] w wr
def RelN2 (w : World) (L M : List EntP) (n0 : Nat) (n i : Value) (wr : World) : Prop := ∃ k : Nat, k ≤ M.length ∧ n = .int .i64 ((n0 : Int) + (((M.take k).filterMap (chg2E L)).length : Int)) ∧ i = .int .i64 k ∧ Mods [] w wr
theorem enc_may {L : List EntP} {b : List UInt8} (h : encP L = (b, 0)) : ∀ e ∈ L, mayE e = true := by
  unfold encP at h
  split at h
  · simp at h
  · rename_i h1
    simp only [not_or] at h1
    have hall : L.all mayE = true := by simpa using h1.2
    exact fun e he => List.all_eq_true.1 hall e he
set_option maxRecDepth 100000 in
set_option maxHeartbeats 8000000 in
noncomputable def diffs_d : {P : Prop // Hid P → diffs_c.1} := Subtype.mk _ (by
  intro hPP w hT Q0 L1 A1 c1 A7 c7 wc u8 u22 u23 u24 u25 u26 u27 u28 u29 u30 u31 u32 u33 u34 u35 u36 u37 u38 u39 u40 u41 u42 u43 u44 u45 u46 u47 u48 u49 u50 u51 u52 u53 u54 u55 u56 u57 u58 u59 u60 u61 u62 u63 u64 u65 u66 u67 u68 u69 u70 u71 u72 u73 u74 u75 u76 u77 u78 u79 u80 u81 u82 u83 u84 u85 u86 u87 u88 u89 u90 u91 u92 u93 u94 u95 u96 u97 u98 u99 u100 u101 u102 u103 u104 u105 u106 u107 u108 u109 u110 u111 u112 u113 u114 u115 u116 u117 u118 u119 u120 u121 u122 u123 u124 u125 u126 u127 u128 u129 u130 u131 u132 u133 u134 u135 u136 u137 u138 u139 u140 u141 u142 u143 u144 u145 u146 u147 u148 u149 u150 u151 u152 u153 u154 u155 u156 u157 u158 u159 u160 u161 u162 u163 u164 u165 u166 u167 u168 u169 u170 u171 u172 u173 u174 u175 u176 u177 u178 u179 u180 u181 u182 u183 u184 u185 u186 u187 u188 u189 u190 u191 u192 u193 u194 u195 u196 u197 u198 u199 u200 u201 u202 u203 u204 u205 u206 u207 u208 u209 u210 u211 u212 u213 u214 u215 u216 u217 u218 u219 u220 u221 u222 u223 u224 u225 u226 u227 u228 u229 u230 u231 u232 u233 u234 u235 u236 u237 u238 u239 u240 u241 u242 u243 u244 u245 u246 u247 u248 u249 u250 u251 u252 u253 u254 u255 u256 u257 u258 u259 u260 u261 u262 u263 u264 u265 u266 u267 u268 u269 u270 u271 u272 u273 u274 u275 M1 hy1 hy2 HS1 HS2 HZ1 HZ2 B1 d1 B7 d7 a HE1 b HE2 w9 A9 c9 Aa ca Ab cb wd HMd HN1d HN2d Ad cd X HYd HXd HT HSO HLN hXl K0 hK0
  have HKEY : Hid (∀ x ∈ X, partsP x.1 = partsR x.1 ∧ x.1.size ≤ 4294967280) := Lib.hid fun x hx => by
    rcases ((HT.out x).1 hx).key with ⟨e, he, h⟩ | ⟨e, he, h⟩
    · rw [h]
      exact ⟨may_parts (enc_may HE1.out e he), by have := (HZ1.out e he).path; omega⟩
    · rw [h]
      exact ⟨may_parts (enc_may HE2.out e he), by have := (HZ2.out e he).path; omega⟩
  go_loopw [15] (fun i wr => RelDs wd X.length i wr) (fun i _ => X.length - (intOf i).toNat)
  case atStart => exact ⟨0, by omega, rfl, Mods.refl _ _⟩
  case round =>
    obtain ⟨k, hk, rfl, hm⟩ := hrel
    have HR := Lib.hid hm
    rcases Nat.lt_or_ge k X.length with hlt | hge
    · obtain ⟨⟨p, was, is⟩, hs⟩ : ∃ x, X[k]? = some x := ⟨_, List.getElem?_eq_getElem hlt⟩
      obtain ⟨g, cg, e1, x0, x1, x2⟩ := (HXd.out wr hm).at hs
      obtain ⟨rfl, -, rfl⟩ := Value.slice.inj e1
      have hs2 : (X.map fun x => (x.1, x.2.2, x.2.1))[k]? = some (p, is, was) := by rw [List.getElem?_map, hs]; rfl
      obtain ⟨g2, cg2, e2, y0, y1, y2⟩ := (HYd.out wr hm).at hs2
      rw [List.length_map] at e2
      obtain ⟨rfl, -, rfl⟩ := Value.slice.inj e2
      simp only at x0 x1 x2 y0 y1 y2
      have HP1 := Lib.hid (place_any L1 p (HN1d.out wr hm))
      have HP2 := Lib.hid (place_any M1 p (HN2d.out wr hm))
      have HTL := Lib.hid ((HT.out _).1 (List.mem_of_getElem? hs))
      generalize hj : placeN L1 p = jN at *
      generalize hkk : placeN M1 p = kN at *
      have HJ := Lib.hid hj
      have HK := Lib.hid hkk
      have HS := Lib.hid hs
      clear e1 e2 hs hs2 hm hj hkk
      go_wp2_with fail
      refine HP1.out.mono ?_
      rintro x w1 ⟨rfl, rfl⟩
      go_wp2_with fail
      refine HP2.out.mono ?_
      rintro x w1 ⟨rfl, rfl⟩
      clear HP1 HP2
      go_wp2_with fail
      have HC0 := Lib.hid (fun w' (hw : InC w1 w') => (show w'.cell? ⟨g, k * 3, none⟩ = some (.string p) from (Mods.cell hw (World.block_lt_of_cell? _ _ x0) (by simp)).trans x0))
      have HC1 := Lib.hid (fun w' (hw : InC w1 w') => (show w'.cell? ⟨g, k * 3 + 1, none⟩ = some (.bool was) from (Mods.cell hw (World.block_lt_of_cell? _ _ x1) (by simp)).trans x1))
      have HC2 := Lib.hid (fun w' (hw : InC w1 w') => (show w'.cell? ⟨g, k * 3 + 2, none⟩ = some (.bool is) from (Mods.cell hw (World.block_lt_of_cell? _ _ x2) (by simp)).trans x2))
      have HD0 := Lib.hid (fun w' (hw : InC w1 w') => (show w'.cell? ⟨g2, k * 3, none⟩ = some (.string p) from (Mods.cell hw (World.block_lt_of_cell? _ _ y0) (by simp)).trans y0))
      have HD1 := Lib.hid (fun w' (hw : InC w1 w') => (show w'.cell? ⟨g2, k * 3 + 1, none⟩ = some (.bool is) from (Mods.cell hw (World.block_lt_of_cell? _ _ y1) (by simp)).trans y1))
      have HD2 := Lib.hid (fun w' (hw : InC w1 w') => (show w'.cell? ⟨g2, k * 3 + 2, none⟩ = some (.bool was) from (Mods.cell hw (World.block_lt_of_cell? _ _ y2) (by simp)).trans y2))
      clear x0 x1 x2 y0 y1 y2
      have HW := Lib.hid (place_was HTL.out)
      rw [HJ.out, HK.out] at HW
      have hj1 : (was == decide (0 ≤ jN)) = true := by rw [HW.out.1]; simp
      have hk1 : (is == decide (0 ≤ kN)) = true := by rw [HW.out.2]; simp
      refine wp_region_quiet (C := InC w1) (by kernel_rfl) (by kernel_rfl) (InC.drew w1) ?_
      dsimp only [List.toList_toArray, List.append]
      repeat (first | go_big_quiet_skip | (go_big_quiet_want; go_big_quiet_op; first | go_big_quiet_on | (apply Exists.intro; refine ⟨fun w' hw' => ?_, ?_⟩; (first | rfl | (rw [HC0.out w' hw']; exact ⟨rfl, rfl⟩) | (rw [HC1.out w' hw']; exact ⟨rfl, rfl⟩) | (rw [HC2.out w' hw']; exact ⟨rfl, rfl⟩) | (rw [HD0.out w' hw']; exact ⟨rfl, rfl⟩) | (rw [HD1.out w' hw']; exact ⟨rfl, rfl⟩) | (rw [HD2.out w' hw']; exact ⟨rfl, rfl⟩)); go_big_quiet_on)))
      rcases Nat.eq_zero_or_pos k with hk0 | hk0
      · have hk1 : decide (0 < k) = false := decide_eq_false (by omega)
        rw [hk1]
        clear hk1
        repeat (first | go_big_quiet_skip | (go_big_quiet_want; go_big_quiet_op; first | go_big_quiet_on | (apply Exists.intro; refine ⟨fun w' hw' => ?_, ?_⟩; (first | rfl | (rw [HC0.out w' hw']; exact ⟨rfl, rfl⟩) | (rw [HC1.out w' hw']; exact ⟨rfl, rfl⟩) | (rw [HC2.out w' hw']; exact ⟨rfl, rfl⟩) | (rw [HD0.out w' hw']; exact ⟨rfl, rfl⟩) | (rw [HD1.out w' hw']; exact ⟨rfl, rfl⟩) | (rw [HD2.out w' hw']; exact ⟨rfl, rfl⟩)); go_big_quiet_on)))
        refine wpQuiet_nil ?_
        intro w5 hw5
        have HR5 := Lib.hid (HR.out.trans hw5 (by simp))
        clear hw5 HC0 HC1 HC2 HD0 HD1 HD2
        go_wp2_with fail
        cases was
        · have hj0 : decide (0 ≤ jN) = false := HW.out.1
          refine wp_region_quiet (C := InC w5) (by kernel_rfl) (by kernel_rfl) (InC.drew w5) ?_
          dsimp only [List.toList_toArray, List.append]
          repeat (first | go_big_quiet_skip | (go_big_quiet_want; go_big_quiet_op; first | go_big_quiet_on | (apply Exists.intro; refine ⟨fun w' hw' => ?_, ?_⟩; (first | rfl | exact ⟨rfl, rfl⟩); go_big_quiet_on)))
          refine wpQuiet_nil ?_
          intro w6 hw6
          have HR6 := Lib.hid (HR5.out.trans hw6 (by simp))
          clear hw6
          go_wp2_with fail
          exact ⟨⟨0 + 1, by omega, rfl, HR6.out⟩, by simp only [intOf]; omega⟩
        · cases is
          · have hj0 : decide (0 ≤ jN) = true := HW.out.1
            have hk0 : decide (0 ≤ kN) = false := HW.out.2
            refine wp_region_quiet (C := InC w5) (by kernel_rfl) (by kernel_rfl) (InC.drew w5) ?_
            dsimp only [List.toList_toArray, List.append]
            repeat (first | go_big_quiet_skip | (go_big_quiet_want; go_big_quiet_op; first | go_big_quiet_on | (apply Exists.intro; refine ⟨fun w' hw' => ?_, ?_⟩; (first | rfl | exact ⟨rfl, rfl⟩); go_big_quiet_on)))
            refine wpQuiet_nil ?_
            intro w6 hw6
            have HR6 := Lib.hid (HR5.out.trans hw6 (by simp))
            clear hw6
            go_wp2_with fail
            exact ⟨⟨0 + 1, by omega, rfl, HR6.out⟩, by simp only [intOf]; omega⟩
          · obtain ⟨j1, k1, e, f, g1, g2', g3, g4, g5⟩ := place_both HS1.out HS2.out HTL.out
            rw [HJ.out] at g1
            rw [HK.out] at g2'
            subst g1 g2'
            have hj0 : decide ((0 : Int) ≤ (j1 : Int)) = true := decide_eq_true (by omega)
            have hk0 : decide ((0 : Int) ≤ (k1 : Int)) = true := decide_eq_true (by omega)
            have hl1 := (List.getElem?_eq_some_iff.1 g3).1
            have hl2 := (List.getElem?_eq_some_iff.1 g4).1
            obtain ⟨ga, oa, va, ea, ra, da⟩ := (HN1d.out w5 HR5.out).at g3
            obtain ⟨gb, ob, vb, eb, rb, db⟩ := (HN2d.out w5 HR5.out).at g4
            subst ea eb
            have HAL := Lib.hid (fun w' (hw : InC w5 w') => lalike_any e f va vb w' (da.mods hw (by simp)) (db.mods hw (by simp)))
            rw [entV_agg, entV_agg, g5] at HAL
            have HRA := Lib.hid (fun w' (hw : InC w5 w') => range_mods ra hw (by simp))
            have HRB := Lib.hid (fun w' (hw : InC w5 w') => range_mods rb hw (by simp))
            clear g3 g4 g5 ra da rb db
            refine wp_region_quiet (C := InC w5) (by kernel_rfl) (by kernel_rfl) (InC.drew w5) ?_
            dsimp only [List.toList_toArray, List.append]
            repeat (first | go_big_quiet_skip | (go_big_quiet_want; go_big_quiet_op; first | go_big_quiet_on | (apply Exists.intro; refine ⟨fun w' hw' => ?_, ?_⟩; (first | rfl | exact ⟨rfl, rfl⟩); go_big_quiet_on)))
            refine wpQuiet_step (fun K hK => ?_)
            go_simp
            refine ⟨.agg (entC e va).toArray, fun w' hw' => ?_, hK _ ?_⟩
            · obtain ⟨r0, r1, r2, r3, r4⟩ := range_ent (HRA.out w' hw')
              simp only [r0, r1, r2, r3, r4, Result.andThen]
              exact ⟨trivial, rfl⟩
            clear hK K
            refine wpQuiet_step (fun K hK => ?_)
            go_simp
            refine ⟨_, fun _ _ => rfl, hK _ ?_⟩
            clear hK K
            repeat (first | go_big_quiet_skip | (go_big_quiet_want; go_big_quiet_op; first | go_big_quiet_on | (apply Exists.intro; refine ⟨fun w' hw' => ?_, ?_⟩; (first | rfl | exact ⟨rfl, rfl⟩); go_big_quiet_on)))
            refine wpQuiet_step (fun K hK => ?_)
            go_simp
            refine ⟨.agg (entC f vb).toArray, fun w' hw' => ?_, hK _ ?_⟩
            · obtain ⟨r0, r1, r2, r3, r4⟩ := range_ent (HRB.out w' hw')
              simp only [r0, r1, r2, r3, r4, Result.andThen]
              exact ⟨trivial, rfl⟩
            clear hK K
            refine wpQuiet_step (fun K hK => ?_)
            go_simp
            refine ⟨.bool false, fun w' hw' => (HAL.out w' hw').mono fun _ _ hh => ⟨hh.1, Mods.trans hw' hh.2 (by simp)⟩, hK _ ?_⟩
            clear hK K
            refine wpQuiet_step (fun K hK => ?_)
            go_simp
            refine ⟨_, fun _ _ => rfl, hK _ ?_⟩
            clear hK K
            refine wpQuiet_nil ?_
            intro w6 hw6
            have HR6 := Lib.hid (HR5.out.trans hw6 (by simp))
            clear hw6
            go_wp2_with fail
            exact ⟨⟨0 + 1, by omega, rfl, HR6.out⟩, by simp only [intOf]; omega⟩
      · obtain ⟨j, rfl⟩ : ∃ j, k = j + 1 := ⟨k - 1, by omega⟩
        have hk1 : decide (0 < j + 1) = true := decide_eq_true (by omega)
        obtain ⟨⟨p0, was0, is0⟩, hs0⟩ : ∃ x, X[j]? = some x := ⟨_, List.getElem?_eq_getElem (by omega)⟩
        have HAH := Lib.hid (fun w' => lahead_any p0 p w' (HKEY.out _ (List.mem_of_getElem? hs0)).2 (HKEY.out _ (List.mem_of_getElem? HS.out)).2)
        have hlt2 : cmpP p0 p < 0 := by
          have := HSO.out
          unfold Dg.SrtC at this
          rw [List.pairwise_iff_getElem] at this
          have h := this j (j + 1) (by omega) hlt (by omega)
          rw [(List.getElem?_eq_some_iff.1 hs0).2, (List.getElem?_eq_some_iff.1 HS.out).2] at h
          exact h
        rw [← (HKEY.out _ (List.mem_of_getElem? hs0)).1, ← (HKEY.out _ (List.mem_of_getElem? HS.out)).1, show decide (cmpL (partsP p0) (partsP p) < 0) = true from decide_eq_true hlt2] at HAH
        have HPRE := Lib.hid (fun w' (hw : InC w1 w') => show w'.cell? ⟨g, j * 3, none⟩ = some (.string p0) from by
          obtain ⟨g', c', e', z0, -⟩ := (HXd.out w' (HR.out.trans hw (by simp))).at hs0
          cases e'
          exact z0)
        rw [hk1]
        repeat (first | go_big_quiet_skip | (go_big_quiet_want; go_big_quiet_op; first | go_big_quiet_on | (apply Exists.intro; refine ⟨fun w' hw' => ?_, ?_⟩; (first | rfl | (rw [HPRE.out w' hw']; exact ⟨rfl, rfl⟩) | (rw [HC0.out w' hw']; exact ⟨rfl, rfl⟩) | (rw [HC1.out w' hw']; exact ⟨rfl, rfl⟩) | (rw [HC2.out w' hw']; exact ⟨rfl, rfl⟩) | (rw [HD0.out w' hw']; exact ⟨rfl, rfl⟩) | (rw [HD1.out w' hw']; exact ⟨rfl, rfl⟩) | (rw [HD2.out w' hw']; exact ⟨rfl, rfl⟩)); go_big_quiet_on)))
        go_big_quiet_want
        go_big_quiet_op
        apply Exists.intro
        refine ⟨fun w' hw' => (HAH.out w').mono fun _ _ hh => ⟨hh.1, Mods.trans hw' hh.2 (by simp)⟩, ?_⟩
        go_big_quiet_on
        repeat (first | go_big_quiet_skip | (go_big_quiet_want; go_big_quiet_op; first | go_big_quiet_on | (apply Exists.intro; refine ⟨fun w' hw' => ?_, ?_⟩; (first | rfl | exact ⟨rfl, rfl⟩); go_big_quiet_on)))
        refine wpQuiet_nil ?_
        intro w5 hw5
        have HR5 := Lib.hid (HR.out.trans hw5 (by simp))
        clear hw5 HC0 HC1 HC2 HD0 HD1 HD2
        go_wp2_with fail
        cases was
        · have hj0 : decide (0 ≤ jN) = false := HW.out.1
          refine wp_region_quiet (C := InC w5) (by kernel_rfl) (by kernel_rfl) (InC.drew w5) ?_
          dsimp only [List.toList_toArray, List.append]
          repeat (first | go_big_quiet_skip | (go_big_quiet_want; go_big_quiet_op; first | go_big_quiet_on | (apply Exists.intro; refine ⟨fun w' hw' => ?_, ?_⟩; (first | rfl | exact ⟨rfl, rfl⟩); go_big_quiet_on)))
          refine wpQuiet_nil ?_
          intro w6 hw6
          have HR6 := Lib.hid (HR5.out.trans hw6 (by simp))
          clear hw6
          go_wp2_with fail
          exact ⟨⟨j + 1 + 1, by omega, rfl, HR6.out⟩, by simp only [intOf]; omega⟩
        · cases is
          · have hj0 : decide (0 ≤ jN) = true := HW.out.1
            have hk0 : decide (0 ≤ kN) = false := HW.out.2
            refine wp_region_quiet (C := InC w5) (by kernel_rfl) (by kernel_rfl) (InC.drew w5) ?_
            dsimp only [List.toList_toArray, List.append]
            repeat (first | go_big_quiet_skip | (go_big_quiet_want; go_big_quiet_op; first | go_big_quiet_on | (apply Exists.intro; refine ⟨fun w' hw' => ?_, ?_⟩; (first | rfl | exact ⟨rfl, rfl⟩); go_big_quiet_on)))
            refine wpQuiet_nil ?_
            intro w6 hw6
            have HR6 := Lib.hid (HR5.out.trans hw6 (by simp))
            clear hw6
            go_wp2_with fail
            exact ⟨⟨j + 1 + 1, by omega, rfl, HR6.out⟩, by simp only [intOf]; omega⟩
          · obtain ⟨j1, k1, e, f, g1, g2', g3, g4, g5⟩ := place_both HS1.out HS2.out HTL.out
            rw [HJ.out] at g1
            rw [HK.out] at g2'
            subst g1 g2'
            have hj0 : decide ((0 : Int) ≤ (j1 : Int)) = true := decide_eq_true (by omega)
            have hk0 : decide ((0 : Int) ≤ (k1 : Int)) = true := decide_eq_true (by omega)
            have hl1 := (List.getElem?_eq_some_iff.1 g3).1
            have hl2 := (List.getElem?_eq_some_iff.1 g4).1
            obtain ⟨ga, oa, va, ea, ra, da⟩ := (HN1d.out w5 HR5.out).at g3
            obtain ⟨gb, ob, vb, eb, rb, db⟩ := (HN2d.out w5 HR5.out).at g4
            subst ea eb
            have HAL := Lib.hid (fun w' (hw : InC w5 w') => lalike_any e f va vb w' (da.mods hw (by simp)) (db.mods hw (by simp)))
            rw [entV_agg, entV_agg, g5] at HAL
            have HRA := Lib.hid (fun w' (hw : InC w5 w') => range_mods ra hw (by simp))
            have HRB := Lib.hid (fun w' (hw : InC w5 w') => range_mods rb hw (by simp))
            clear g3 g4 g5 ra da rb db
            refine wp_region_quiet (C := InC w5) (by kernel_rfl) (by kernel_rfl) (InC.drew w5) ?_
            dsimp only [List.toList_toArray, List.append]
            repeat (first | go_big_quiet_skip | (go_big_quiet_want; go_big_quiet_op; first | go_big_quiet_on | (apply Exists.intro; refine ⟨fun w' hw' => ?_, ?_⟩; (first | rfl | exact ⟨rfl, rfl⟩); go_big_quiet_on)))
            refine wpQuiet_step (fun K hK => ?_)
            go_simp
            refine ⟨.agg (entC e va).toArray, fun w' hw' => ?_, hK _ ?_⟩
            · obtain ⟨r0, r1, r2, r3, r4⟩ := range_ent (HRA.out w' hw')
              simp only [r0, r1, r2, r3, r4, Result.andThen]
              exact ⟨trivial, rfl⟩
            clear hK K
            refine wpQuiet_step (fun K hK => ?_)
            go_simp
            refine ⟨_, fun _ _ => rfl, hK _ ?_⟩
            clear hK K
            repeat (first | go_big_quiet_skip | (go_big_quiet_want; go_big_quiet_op; first | go_big_quiet_on | (apply Exists.intro; refine ⟨fun w' hw' => ?_, ?_⟩; (first | rfl | exact ⟨rfl, rfl⟩); go_big_quiet_on)))
            refine wpQuiet_step (fun K hK => ?_)
            go_simp
            refine ⟨.agg (entC f vb).toArray, fun w' hw' => ?_, hK _ ?_⟩
            · obtain ⟨r0, r1, r2, r3, r4⟩ := range_ent (HRB.out w' hw')
              simp only [r0, r1, r2, r3, r4, Result.andThen]
              exact ⟨trivial, rfl⟩
            clear hK K
            refine wpQuiet_step (fun K hK => ?_)
            go_simp
            refine ⟨.bool false, fun w' hw' => (HAL.out w' hw').mono fun _ _ hh => ⟨hh.1, Mods.trans hw' hh.2 (by simp)⟩, hK _ ?_⟩
            clear hK K
            refine wpQuiet_step (fun K hK => ?_)
            go_simp
            refine ⟨_, fun _ _ => rfl, hK _ ?_⟩
            clear hK K
            refine wpQuiet_nil ?_
            intro w6 hw6
            have HR6 := Lib.hid (HR5.out.trans hw6 (by simp))
            clear hw6
            go_wp2_with fail
            exact ⟨⟨j + 1 + 1, by omega, rfl, HR6.out⟩, by simp only [intOf]; omega⟩
    · obtain rfl : k = X.length := by omega
      have HLN2 := Lib.hid (show ((L1.filterMap (chg1E M1)).length + (M1.filterMap (chg2E L1)).length) = X.length from by
        rw [HLN.out]
        unfold Dg.chg
        rw [List.length_append])
      clear hm hge hk
      go_wp2_with fail
      clear HXd HYd HT HSO HLN HKEY HE1 HE2 HZ1 HZ2 HS1 HS2 hT
      rename_i Qx Kx hKx Ky hKy
      clear hKx Kx Qx
      revert w L1 A1 c1 A7 c7 u8 u22 u23 u24 u25 u26 u27 u28 u29 u30 u31 u32 u33 u34 u35 u36 u37 u38 u39 u40 u41 u42 u43 u44 u45 u46 u47 u48 u49 u50 u51 u52 u53 u54 u55 u56 u57 u58 u59 u60 u61 u62 u63 u64 u65 u66 u67 u68 u69 u70 u71 u72 u73 u74 u75 u76 u77 u78 u79 u80 u81 u82 u83 u84 u85 u86 u87 u88 u89 u90 u91 u92 u93 u94 u95 u96 u97 u98 u99 u100 u101 u102 u103 u104 u105 u106 u107 u108 u109 u110 u111 u112 u113 u227 u228 u229 u230 u231 u232 u233 u234 u235 u236 u237 u238 u239 u240 u241 u242 u243 u244 u245 u246 u247 u248 u249 u250 u251 u252 u253 u254 u255 u256 u257 u258 u259 u260 u261 u262 u263 u264 u265 u266 u267 u268 u269 u270 u271 u272 u273 u274 u275 M1 B1 d1 B7 d7 a b A9 c9 Aa ca Ab cb wd Ad cd X wr u4 u16 u17 u114 u115 u116 u117 u118 u119 u120 u121 u122 u123 u124 u125 u126 u127 u128 u129 u130 u131 u132 u133 u134 u135 u136 u137 u138 u139 u140 u141 u142 u143 u144 u145 u146 u147 u148 u149 u150 u151 u152 u153 u154 u155 u156 u157 u158 u159 u160 u161 u162 u163 u164 u165 u166 u167 u168 u169 u170 u171 u172 u173 u174 u175 u176 u177 u178 u179 u180 u181 u182 u183 u184 u185 u186 u187 u188 u189 u190 u191 u192 u193 u194 u195 u196 u197 u198 u199 u200 u201 u202 u203 u204 u205 u206 u207 u208 u209 u210 u211 u212 u213 u214 u215 u216 u217 u218 u219 u220 u221 u222 u223 u224 u225 u226 Ky
      exact hPP.out)
end Go.Proofs.YtmcekhgmmocajaaGreatDoor
