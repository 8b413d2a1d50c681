/- The reference's diff, Diff. | The reference's Diff. -/
import Derived.Test.YtmcekhgmmocajaaGreatDoorRw2
import Derived.Test.YtmcekhgmmocajaaGreatDoorDj
import Derived.Test.YtmcekhgmmocajaaGreatDoorDw
namespace Go.Proofs.YtmcekhgmmocajaaGreatDoor
open Go.RowKit Me Go.BigFrame

abbrev mrgE (L M : List EntP) := Dg.mrg cmpP EntP.path sameE L M
def RelRf (w : World) (L M : List EntP) (v i j : Value) (wr : World) : Prop :=
  ∃ (a b : Nat) (X : List (ByteArray × Bool × Bool)), a ≤ L.length ∧ b ≤ M.length ∧ i = .int .i64 (a : Int) ∧ j = .int .i64 (b : Int) ∧ Chs wr w.heap.size v X ∧ X.length ≤ a + b ∧ X ++ mrgE (L.drop a) (M.drop b) = mrgE L M ∧ Mods [] w wr
set_option maxRecDepth 100000 in
set_option maxHeartbeats 4000000 in
theorem rdiff_any {w : World} (L M : List EntP) {A B : Option Addr} {c d : Nat} (hL : Ents w (.slice A L.length c) L) (hM : Ents w (.slice B M.length d) M) (mL : ∀ e ∈ L, mayE e = true) (mM : ∀ e ∈ M, mayE e = true) (lL : L.length ≤ 100000000) (lM : M.length ≤ 100000000) :
    Calls Tryz.prog 105 #[.slice A L.length c, .slice B M.length d] w fun x w' => ∃ v, x = .returned v ∧ Chs w' w.heap.size v (mrgE L M) ∧ Mods [] w w' := by
  have HL := Lib.hid hL
  have HM := Lib.hid hM
  have ML := Lib.hid mL
  have MM := Lib.hid mM
  obtain ⟨i0, hi, hz0, hz1, hz2⟩ := info_parts info54z
  clear hL hM mL mM
  go_enter Tryz.func105, Tryz.ntmps105
  go_wp2_with fail
  go_loopw [5, 6, 7] (fun v i j wr => RelRf w L M v i j wr) (fun _ i j _ => (L.length - (intOf i).toNat) + (M.length - (intOf j).toNat))
  case atStart => exact ⟨0, 0, [], by omega, by omega, rfl, rfl, World.ownsRow_nil _ _ _ _, by simp, rfl, Mods.refl _ _⟩
  case round =>
    obtain ⟨a, b, X, ha, hb, rfl, rfl, ho, hx, hzz, hm⟩ := hrel
    have HR0 := Lib.hid hm
    have HO0 := Lib.hid ho
    have HZ0 := Lib.hid hzz
    clear ho hm hzz
    rcases Nat.lt_or_ge a L.length with hlt | hge
    · obtain ⟨e, hs⟩ : ∃ e, L[a]? = some e := ⟨_, List.getElem?_eq_getElem hlt⟩
      have HDA : Hid (L.drop a = e :: L.drop (a + 1)) := Lib.hid (by rw [List.drop_eq_getElem_cons hlt]; congr 1; exact (List.getElem?_eq_some_iff.1 hs).2)
      obtain ⟨g, off, vd, e1, hrg, hrd⟩ := (HL.out.mods HR0.out).at hs
      have HE0 := Lib.hid (fun w' (hw : InC wr w') => (range_ent (range_mods hrg hw (by simp))).1)
      have hme := ML.out e (List.mem_of_getElem? hs)
      subst e1
      rcases Nat.lt_or_ge b M.length with hlt2 | hge2
      · obtain ⟨f, hs2⟩ : ∃ f, M[b]? = some f := ⟨_, List.getElem?_eq_getElem hlt2⟩
        have HDB : Hid (M.drop b = f :: M.drop (b + 1)) := Lib.hid (by rw [List.drop_eq_getElem_cons hlt2]; congr 1; exact (List.getElem?_eq_some_iff.1 hs2).2)
        obtain ⟨g2, off2, vd2, e2, hrg2, hrd2⟩ := (HM.out.mods HR0.out).at hs2
        have HF0 := Lib.hid (fun w' (hw : InC wr w') => (range_ent (range_mods hrg2 hw (by simp))).1)
        have hmf := MM.out f (List.mem_of_getElem? hs2)
        subst e2
        have hpe := (may_sizes hme).1
        have hpf := (may_sizes hmf).1
        have HA1 := Lib.hid (fun w' => ahead_any e.path f.path w' (by omega) (by omega))
        have HA2 := Lib.hid (fun w' => ahead_any f.path e.path w' (by omega) (by omega))
        rw [← may_parts hme, ← may_parts hmf] at HA1 HA2
        have HAL := Lib.hid (fun w' (hw : InC wr w') => ralike_any e f vd vd2 w' (hrd.mods hw (by simp)) (hrd2.mods hw (by simp)))
        rw [entV_agg, entV_agg] at HAL
        have HRA := Lib.hid (fun w' (hw : InC wr w') => range_mods hrg hw (by simp))
        have HRB := Lib.hid (fun w' (hw : InC wr w') => range_mods hrg2 hw (by simp))
        have hstep : mrgE (L.drop a) (M.drop b) = if e.path = f.path then (if sameE e f then mrgE (L.drop (a + 1)) (M.drop (b + 1)) else (e.path, true, true) :: mrgE (L.drop (a + 1)) (M.drop (b + 1))) else if cmpP e.path f.path < 0 then (e.path, true, false) :: mrgE (L.drop (a + 1)) (f :: M.drop (b + 1)) else (f.path, false, true) :: mrgE (e :: L.drop (a + 1)) (M.drop (b + 1)) := by rw [HDA.out, HDB.out]; unfold mrgE; rw [Dg.mrg]
        have HST := Lib.hid hstep
        have hcmp : cmpL (partsP e.path) (partsP f.path) = cmpP e.path f.path := rfl
        have hcmp2 : cmpL (partsP f.path) (partsP e.path) = cmpP f.path e.path := rfl
        rw [hcmp] at HA1
        rw [hcmp2] at HA2
        have hsq := str_eqB e.path f.path
        have hnb : decide (M.length ≤ b) = false := decide_eq_false (by omega)
        have hna : decide (L.length ≤ a) = false := decide_eq_false (by omega)
        clear hs hs2 hrg hrg2 hrd hrd2 hstep hcmp hcmp2 hme hmf
        by_cases hp : e.path = f.path
        · have HST2 := HST.out
          rw [if_pos hp] at HST2
          rw [decide_eq_true hp] at hsq
          clear HST hp HA1 HA2
          cases hsm : sameE e f
          · rw [hsm] at HAL
            rw [hsm, if_neg (by simp)] at HST2
            have HS2 := Lib.hid HST2
            clear HST2 hsm
            have HZZ : Hid (X ++ ([(e.path, true, true)] ++ mrgE (L.drop (a + 1)) (M.drop (b + 1))) = mrgE L M) := Lib.hid (by
              have h := HZ0.out
              rw [HS2.out] at h
              exact h)
            go_wp2_with fail
            refine wp_region_quiet (C := InC wr) (by kernel_rfl) (by kernel_rfl) (InC.drew wr) ?_
            dsimp only [List.toList_toArray, List.append]
            repeat (first | go_big_quiet_skip | (go_big_quiet_want; go_big_quiet_op; first | go_big_quiet_on | (apply Exists.intro; refine ⟨fun w' hw' => ?_, ?_⟩; (first | rfl | exact ⟨rfl, rfl⟩ | (rw [HE0.out w' hw']; exact ⟨rfl, rfl⟩) | (rw [HF0.out w' hw']; exact ⟨rfl, rfl⟩)); go_big_quiet_on)))
            refine wpQuiet_nil ?_
            intro w3 hw
            have HRw3 := Lib.hid (HR0.out.trans hw (by simp))
            have HOw3 := Lib.hid (HO0.out.mods hw)
            have HE0 := Lib.hid (fun w' (hw' : InC w3 w') => HE0.out w' (Mods.trans hw hw' (by simp)))
            have HF0 := Lib.hid (fun w' (hw' : InC w3 w') => HF0.out w' (Mods.trans hw hw' (by simp)))
            have HWW := Lib.hid hw
            clear hw
            go_wp2_with fail
            refine wp_region_quiet (C := InC w3) (by kernel_rfl) (by kernel_rfl) (InC.drew w3) ?_
            dsimp only [List.toList_toArray, List.append]
            repeat (first | go_big_quiet_skip | (go_big_quiet_want; go_big_quiet_op; first | go_big_quiet_on | (apply Exists.intro; refine ⟨fun w' hw' => ?_, ?_⟩; (first | rfl | exact ⟨rfl, rfl⟩ | (rw [HE0.out w' hw']; exact ⟨rfl, rfl⟩) | (rw [HF0.out w' hw']; exact ⟨rfl, rfl⟩)); go_big_quiet_on)))
            refine wpQuiet_nil ?_
            intro w5 hw
            have HRw5 := Lib.hid (HRw3.out.trans hw (by simp))
            have HOw5 := Lib.hid (HOw3.out.mods hw)
            have HE0 := Lib.hid (fun w' (hw' : InC w5 w') => HE0.out w' (Mods.trans hw hw' (by simp)))
            have HF0 := Lib.hid (fun w' (hw' : InC w5 w') => HF0.out w' (Mods.trans hw hw' (by simp)))
            have HWW := Lib.hid (Mods.trans HWW.out hw (by simp))
            clear hw
            go_wp2_with fail
            refine wp_region_quiet (C := InC w5) (by kernel_rfl) (by kernel_rfl) (InC.drew w5) ?_
            dsimp only [List.toList_toArray, List.append]
            repeat (first | go_big_quiet_skip | (go_big_quiet_want; go_big_quiet_op; first | go_big_quiet_on | (apply Exists.intro; refine ⟨fun w' hw' => ?_, ?_⟩; (first | rfl | exact ⟨rfl, rfl⟩); go_big_quiet_on)))
            refine wpQuiet_step (fun K hK => ?_)
            go_simp
            refine ⟨.agg (entC e vd).toArray, fun w' hw' => ?_, hK _ ?_⟩
            · obtain ⟨r0, r1, r2, r3, r4⟩ := range_ent (HRA.out w' (Mods.trans HWW.out hw' (by simp)))
              simp only [r0, r1, r2, r3, r4, Result.andThen]
              exact ⟨trivial, rfl⟩
            clear hK K
            repeat (first | go_big_quiet_skip | (go_big_quiet_want; go_big_quiet_op; first | go_big_quiet_on | (apply Exists.intro; refine ⟨fun w' hw' => ?_, ?_⟩; (first | rfl | exact ⟨rfl, rfl⟩); go_big_quiet_on)))
            refine wpQuiet_step (fun K hK => ?_)
            go_simp
            refine ⟨.agg (entC f vd2).toArray, fun w' hw' => ?_, hK _ ?_⟩
            · obtain ⟨r0, r1, r2, r3, r4⟩ := range_ent (HRB.out w' (Mods.trans HWW.out hw' (by simp)))
              simp only [r0, r1, r2, r3, r4, Result.andThen]
              exact ⟨trivial, rfl⟩
            clear hK K
            refine wpQuiet_step (fun K hK => ?_)
            go_simp
            refine ⟨.bool false, fun w' hw' => (HAL.out w' (Mods.trans HWW.out hw' (by simp))).mono fun _ _ hh => ⟨hh.1, Mods.trans hw' hh.2 (by simp)⟩, hK _ ?_⟩
            clear hK K
            repeat (first | go_big_quiet_skip | (go_big_quiet_want; go_big_quiet_op; first | go_big_quiet_on | (apply Exists.intro; refine ⟨fun w' hw' => ?_, ?_⟩; (first | rfl | exact ⟨rfl, rfl⟩); go_big_quiet_on)))
            refine wpQuiet_nil ?_
            intro w6 hw
            have HRw6 := Lib.hid (HRw5.out.trans hw (by simp))
            have HOw6 := Lib.hid (HOw5.out.mods hw)
            have HE0 := Lib.hid (fun w' (hw' : InC w6 w') => HE0.out w' (Mods.trans hw hw' (by simp)))
            have HF0 := Lib.hid (fun w' (hw' : InC w6 w') => HF0.out w' (Mods.trans hw hw' (by simp)))
            clear hw
            have c0 := HE0.out w6 (Mods.refl [] w6)
            have HROW : Hid (w6.ownsRow w.heap.size 54 3 _ X.length (X.flatMap encX)) := Lib.hid HOw6.out
            have hsz := HRw6.out.size
            obtain ⟨A7, c7, rfl⟩ := own_ctor HROW.out
            go_wp2_with (at_builtin; go_must (refine wpList_app _ rfl _ _ 49 49 rfl w.heap.size 54 i0 (.agg #[.string ⟨#[]⟩, .bool false, .bool false]) 3 24 Tryz.underlying49 hi hz0 hz1 hz2 rfl _ _ _ rfl (HROW.out.alloc _) _ 1 (encX (e.path, true, true)) rfl ?c1 ?c2 ?c3 ?c4 ?_))
            case c1 => exact src_chg w6 (e.path, true, true)
            case c2 => unfold maxLen; omega
            case c3 => omega
            case c4 => simp; omega
            intro v' wz hown hgrow hat
            have hmz : Mods (Value.slice A7 X.length c7).ownBlock.toList w6 wz := ((Mods.refl _ w6).alloc _).grown hgrow (fun x hx => Or.inl (by rw [hx]; simp))
            have HMz := Lib.hid (HRw6.out.trans hmz (fun x hx => Or.inr (HROW.out.lt x (by simpa using hx)).1))
            have HOz := Lib.hid (Chs.snoc hown)
            obtain ⟨A8, c8, rfl⟩ := own_ctor hown
            clear hown hgrow hat hmz HROW
            go_wp2_with fail
            exact ⟨⟨a + 1, b + 1, _, by omega, by omega, rfl, rfl, HOz.out, by rw [List.length_append]; simp; omega, by rw [List.append_assoc]; exact HZZ.out, HMz.out⟩, by simp only [intOf]; omega⟩
          · rw [hsm] at HAL
            rw [hsm, if_pos rfl] at HST2
            have HS2 := Lib.hid HST2
            clear HST2 hsm
            go_wp2_with fail
            refine wp_region_quiet (C := InC wr) (by kernel_rfl) (by kernel_rfl) (InC.drew wr) ?_
            dsimp only [List.toList_toArray, List.append]
            repeat (first | go_big_quiet_skip | (go_big_quiet_want; go_big_quiet_op; first | go_big_quiet_on | (apply Exists.intro; refine ⟨fun w' hw' => ?_, ?_⟩; (first | rfl | exact ⟨rfl, rfl⟩ | (rw [HE0.out w' hw']; exact ⟨rfl, rfl⟩) | (rw [HF0.out w' hw']; exact ⟨rfl, rfl⟩)); go_big_quiet_on)))
            refine wpQuiet_nil ?_
            intro w3 hw
            have HRw3 := Lib.hid (HR0.out.trans hw (by simp))
            have HOw3 := Lib.hid (HO0.out.mods hw)
            have HE0 := Lib.hid (fun w' (hw' : InC w3 w') => HE0.out w' (Mods.trans hw hw' (by simp)))
            have HF0 := Lib.hid (fun w' (hw' : InC w3 w') => HF0.out w' (Mods.trans hw hw' (by simp)))
            have HWW := Lib.hid hw
            clear hw
            go_wp2_with fail
            refine wp_region_quiet (C := InC w3) (by kernel_rfl) (by kernel_rfl) (InC.drew w3) ?_
            dsimp only [List.toList_toArray, List.append]
            repeat (first | go_big_quiet_skip | (go_big_quiet_want; go_big_quiet_op; first | go_big_quiet_on | (apply Exists.intro; refine ⟨fun w' hw' => ?_, ?_⟩; (first | rfl | exact ⟨rfl, rfl⟩ | (rw [HE0.out w' hw']; exact ⟨rfl, rfl⟩) | (rw [HF0.out w' hw']; exact ⟨rfl, rfl⟩)); go_big_quiet_on)))
            refine wpQuiet_nil ?_
            intro w5 hw
            have HRw5 := Lib.hid (HRw3.out.trans hw (by simp))
            have HOw5 := Lib.hid (HOw3.out.mods hw)
            have HE0 := Lib.hid (fun w' (hw' : InC w5 w') => HE0.out w' (Mods.trans hw hw' (by simp)))
            have HF0 := Lib.hid (fun w' (hw' : InC w5 w') => HF0.out w' (Mods.trans hw hw' (by simp)))
            have HWW := Lib.hid (Mods.trans HWW.out hw (by simp))
            clear hw
            go_wp2_with fail
            refine wp_region_quiet (C := InC w5) (by kernel_rfl) (by kernel_rfl) (InC.drew w5) ?_
            dsimp only [List.toList_toArray, List.append]
            repeat (first | go_big_quiet_skip | (go_big_quiet_want; go_big_quiet_op; first | go_big_quiet_on | (apply Exists.intro; refine ⟨fun w' hw' => ?_, ?_⟩; (first | rfl | exact ⟨rfl, rfl⟩); go_big_quiet_on)))
            refine wpQuiet_step (fun K hK => ?_)
            go_simp
            refine ⟨.agg (entC e vd).toArray, fun w' hw' => ?_, hK _ ?_⟩
            · obtain ⟨r0, r1, r2, r3, r4⟩ := range_ent (HRA.out w' (Mods.trans HWW.out hw' (by simp)))
              simp only [r0, r1, r2, r3, r4, Result.andThen]
              exact ⟨trivial, rfl⟩
            clear hK K
            repeat (first | go_big_quiet_skip | (go_big_quiet_want; go_big_quiet_op; first | go_big_quiet_on | (apply Exists.intro; refine ⟨fun w' hw' => ?_, ?_⟩; (first | rfl | exact ⟨rfl, rfl⟩); go_big_quiet_on)))
            refine wpQuiet_step (fun K hK => ?_)
            go_simp
            refine ⟨.agg (entC f vd2).toArray, fun w' hw' => ?_, hK _ ?_⟩
            · obtain ⟨r0, r1, r2, r3, r4⟩ := range_ent (HRB.out w' (Mods.trans HWW.out hw' (by simp)))
              simp only [r0, r1, r2, r3, r4, Result.andThen]
              exact ⟨trivial, rfl⟩
            clear hK K
            refine wpQuiet_step (fun K hK => ?_)
            go_simp
            refine ⟨.bool true, fun w' hw' => (HAL.out w' (Mods.trans HWW.out hw' (by simp))).mono fun _ _ hh => ⟨hh.1, Mods.trans hw' hh.2 (by simp)⟩, hK _ ?_⟩
            clear hK K
            repeat (first | go_big_quiet_skip | (go_big_quiet_want; go_big_quiet_op; first | go_big_quiet_on | (apply Exists.intro; refine ⟨fun w' hw' => ?_, ?_⟩; (first | rfl | exact ⟨rfl, rfl⟩); go_big_quiet_on)))
            refine wpQuiet_nil ?_
            intro w6 hw
            have HRw6 := Lib.hid (HRw5.out.trans hw (by simp))
            have HOw6 := Lib.hid (HOw5.out.mods hw)
            have HE0 := Lib.hid (fun w' (hw' : InC w6 w') => HE0.out w' (Mods.trans hw hw' (by simp)))
            have HF0 := Lib.hid (fun w' (hw' : InC w6 w') => HF0.out w' (Mods.trans hw hw' (by simp)))
            clear hw
            go_wp2_with fail
            exact ⟨⟨a + 1, b + 1, X, by omega, by omega, rfl, rfl, HOw6.out, by omega, by rw [← HS2.out]; exact HZ0.out, HRw6.out⟩, by simp only [intOf]; omega⟩
        · have HST2 := HST.out
          rw [if_neg hp] at HST2
          rw [decide_eq_false hp] at hsq
          by_cases hlt3 : cmpP e.path f.path < 0
          · rw [if_pos hlt3] at HST2
            have HS2 := Lib.hid HST2
            have hgt := cmpP_ord.asymm hlt3
            rw [decide_eq_true hlt3] at HA1
            rw [decide_eq_false hgt] at HA2
            clear HST HST2 hp hlt3 hgt HAL HRA HRB
            have HZZ : Hid (X ++ ([(e.path, true, false)] ++ mrgE (L.drop (a + 1)) (M.drop b)) = mrgE L M) := Lib.hid (by
              have h := HZ0.out
              rw [HS2.out] at h
              rw [HDB.out]
              exact h)
            go_wp2_with fail
            refine wp_region_quiet (C := InC wr) (by kernel_rfl) (by kernel_rfl) (InC.drew wr) ?_
            dsimp only [List.toList_toArray, List.append]
            repeat (first | go_big_quiet_skip | (go_big_quiet_want; go_big_quiet_op; first | go_big_quiet_on | (apply Exists.intro; refine ⟨fun w' hw' => ?_, ?_⟩; (first | rfl | exact ⟨rfl, rfl⟩ | (rw [HE0.out w' hw']; exact ⟨rfl, rfl⟩) | (rw [HF0.out w' hw']; exact ⟨rfl, rfl⟩)); go_big_quiet_on)))
            go_big_quiet_want
            go_big_quiet_op
            apply Exists.intro
            refine ⟨fun w' hw' => (HA1.out w').mono fun _ _ hh => ⟨hh.1, Mods.trans hw' hh.2 (by simp)⟩, ?_⟩
            go_big_quiet_on
            repeat (first | go_big_quiet_skip | (go_big_quiet_want; go_big_quiet_op; first | go_big_quiet_on | (apply Exists.intro; refine ⟨fun w' hw' => ?_, ?_⟩; (first | rfl | exact ⟨rfl, rfl⟩ | (rw [HE0.out w' hw']; exact ⟨rfl, rfl⟩) | (rw [HF0.out w' hw']; exact ⟨rfl, rfl⟩)); go_big_quiet_on)))
            refine wpQuiet_nil ?_
            intro w3 hw
            have HRw3 := Lib.hid (HR0.out.trans hw (by simp))
            have HOw3 := Lib.hid (HO0.out.mods hw)
            have HE0 := Lib.hid (fun w' (hw' : InC w3 w') => HE0.out w' (Mods.trans hw hw' (by simp)))
            have HF0 := Lib.hid (fun w' (hw' : InC w3 w') => HF0.out w' (Mods.trans hw hw' (by simp)))
            clear hw
            go_wp2_with fail
            refine wp_region_quiet (C := InC w3) (by kernel_rfl) (by kernel_rfl) (InC.drew w3) ?_
            dsimp only [List.toList_toArray, List.append]
            repeat (first | go_big_quiet_skip | (go_big_quiet_want; go_big_quiet_op; first | go_big_quiet_on | (apply Exists.intro; refine ⟨fun w' hw' => ?_, ?_⟩; (first | rfl | exact ⟨rfl, rfl⟩ | (rw [HE0.out w' hw']; exact ⟨rfl, rfl⟩) | (rw [HF0.out w' hw']; exact ⟨rfl, rfl⟩)); go_big_quiet_on)))
            go_big_quiet_want
            go_big_quiet_op
            apply Exists.intro
            refine ⟨fun w' hw' => (HA2.out w').mono fun _ _ hh => ⟨hh.1, Mods.trans hw' hh.2 (by simp)⟩, ?_⟩
            go_big_quiet_on
            repeat (first | go_big_quiet_skip | (go_big_quiet_want; go_big_quiet_op; first | go_big_quiet_on | (apply Exists.intro; refine ⟨fun w' hw' => ?_, ?_⟩; (first | rfl | exact ⟨rfl, rfl⟩ | (rw [HE0.out w' hw']; exact ⟨rfl, rfl⟩) | (rw [HF0.out w' hw']; exact ⟨rfl, rfl⟩)); go_big_quiet_on)))
            refine wpQuiet_nil ?_
            intro w5 hw
            have HRw5 := Lib.hid (HRw3.out.trans hw (by simp))
            have HOw5 := Lib.hid (HOw3.out.mods hw)
            have HE0 := Lib.hid (fun w' (hw' : InC w5 w') => HE0.out w' (Mods.trans hw hw' (by simp)))
            have HF0 := Lib.hid (fun w' (hw' : InC w5 w') => HF0.out w' (Mods.trans hw hw' (by simp)))
            clear hw
            have c0 := HE0.out w5 (Mods.refl [] w5)
            have HROW : Hid (w5.ownsRow w.heap.size 54 3 _ X.length (X.flatMap encX)) := Lib.hid HOw5.out
            have hsz := HRw5.out.size
            obtain ⟨A7, c7, rfl⟩ := own_ctor HROW.out
            go_wp2_with (at_builtin; go_must (refine wpList_app _ rfl _ _ 49 49 rfl w.heap.size 54 i0 (.agg #[.string ⟨#[]⟩, .bool false, .bool false]) 3 24 Tryz.underlying49 hi hz0 hz1 hz2 rfl _ _ _ rfl (HROW.out.alloc _) _ 1 (encX (e.path, true, false)) rfl ?c1 ?c2 ?c3 ?c4 ?_))
            case c1 => exact src_chg w5 (e.path, true, false)
            case c2 => unfold maxLen; omega
            case c3 => omega
            case c4 => simp; omega
            intro v' wz hown hgrow hat
            have hmz : Mods (Value.slice A7 X.length c7).ownBlock.toList w5 wz := ((Mods.refl _ w5).alloc _).grown hgrow (fun x hx => Or.inl (by rw [hx]; simp))
            have HMz := Lib.hid (HRw5.out.trans hmz (fun x hx => Or.inr (HROW.out.lt x (by simpa using hx)).1))
            have HOz := Lib.hid (Chs.snoc hown)
            obtain ⟨A8, c8, rfl⟩ := own_ctor hown
            clear hown hgrow hat hmz HROW
            go_wp2_with fail
            exact ⟨⟨a + 1, b, _, by omega, by omega, rfl, rfl, HOz.out, by rw [List.length_append]; simp; omega, by rw [List.append_assoc]; exact HZZ.out, HMz.out⟩, by simp only [intOf]; omega⟩
          · rw [if_neg hlt3] at HST2
            have HS2 := Lib.hid HST2
            have hgt : cmpP f.path e.path < 0 := by
              rcases cmpP_ord.total e.path f.path with k | k | k
              · exact absurd k hlt3
              · exact absurd k hp
              · exact k
            rw [decide_eq_false hlt3] at HA1
            rw [decide_eq_true hgt] at HA2
            clear HST HST2 hp hlt3 hgt HAL HRA HRB
            have HZZ : Hid (X ++ ([(f.path, false, true)] ++ mrgE (L.drop a) (M.drop (b + 1))) = mrgE L M) := Lib.hid (by
              have h := HZ0.out
              rw [HS2.out] at h
              rw [HDA.out]
              exact h)
            go_wp2_with fail
            refine wp_region_quiet (C := InC wr) (by kernel_rfl) (by kernel_rfl) (InC.drew wr) ?_
            dsimp only [List.toList_toArray, List.append]
            repeat (first | go_big_quiet_skip | (go_big_quiet_want; go_big_quiet_op; first | go_big_quiet_on | (apply Exists.intro; refine ⟨fun w' hw' => ?_, ?_⟩; (first | rfl | exact ⟨rfl, rfl⟩ | (rw [HE0.out w' hw']; exact ⟨rfl, rfl⟩) | (rw [HF0.out w' hw']; exact ⟨rfl, rfl⟩)); go_big_quiet_on)))
            go_big_quiet_want
            go_big_quiet_op
            apply Exists.intro
            refine ⟨fun w' hw' => (HA1.out w').mono fun _ _ hh => ⟨hh.1, Mods.trans hw' hh.2 (by simp)⟩, ?_⟩
            go_big_quiet_on
            repeat (first | go_big_quiet_skip | (go_big_quiet_want; go_big_quiet_op; first | go_big_quiet_on | (apply Exists.intro; refine ⟨fun w' hw' => ?_, ?_⟩; (first | rfl | exact ⟨rfl, rfl⟩ | (rw [HE0.out w' hw']; exact ⟨rfl, rfl⟩) | (rw [HF0.out w' hw']; exact ⟨rfl, rfl⟩)); go_big_quiet_on)))
            refine wpQuiet_nil ?_
            intro w3 hw
            have HRw3 := Lib.hid (HR0.out.trans hw (by simp))
            have HOw3 := Lib.hid (HO0.out.mods hw)
            have HE0 := Lib.hid (fun w' (hw' : InC w3 w') => HE0.out w' (Mods.trans hw hw' (by simp)))
            have HF0 := Lib.hid (fun w' (hw' : InC w3 w') => HF0.out w' (Mods.trans hw hw' (by simp)))
            clear hw
            go_wp2_with fail
            refine wp_region_quiet (C := InC w3) (by kernel_rfl) (by kernel_rfl) (InC.drew w3) ?_
            dsimp only [List.toList_toArray, List.append]
            repeat (first | go_big_quiet_skip | (go_big_quiet_want; go_big_quiet_op; first | go_big_quiet_on | (apply Exists.intro; refine ⟨fun w' hw' => ?_, ?_⟩; (first | rfl | exact ⟨rfl, rfl⟩ | (rw [HE0.out w' hw']; exact ⟨rfl, rfl⟩) | (rw [HF0.out w' hw']; exact ⟨rfl, rfl⟩)); go_big_quiet_on)))
            go_big_quiet_want
            go_big_quiet_op
            apply Exists.intro
            refine ⟨fun w' hw' => (HA2.out w').mono fun _ _ hh => ⟨hh.1, Mods.trans hw' hh.2 (by simp)⟩, ?_⟩
            go_big_quiet_on
            repeat (first | go_big_quiet_skip | (go_big_quiet_want; go_big_quiet_op; first | go_big_quiet_on | (apply Exists.intro; refine ⟨fun w' hw' => ?_, ?_⟩; (first | rfl | exact ⟨rfl, rfl⟩ | (rw [HE0.out w' hw']; exact ⟨rfl, rfl⟩) | (rw [HF0.out w' hw']; exact ⟨rfl, rfl⟩)); go_big_quiet_on)))
            refine wpQuiet_nil ?_
            intro w5 hw
            have HRw5 := Lib.hid (HRw3.out.trans hw (by simp))
            have HOw5 := Lib.hid (HOw3.out.mods hw)
            have HE0 := Lib.hid (fun w' (hw' : InC w5 w') => HE0.out w' (Mods.trans hw hw' (by simp)))
            have HF0 := Lib.hid (fun w' (hw' : InC w5 w') => HF0.out w' (Mods.trans hw hw' (by simp)))
            clear hw
            have c0 := HF0.out w5 (Mods.refl [] w5)
            have HROW : Hid (w5.ownsRow w.heap.size 54 3 _ X.length (X.flatMap encX)) := Lib.hid HOw5.out
            have hsz := HRw5.out.size
            obtain ⟨A7, c7, rfl⟩ := own_ctor HROW.out
            go_wp2_with (at_builtin; go_must (refine wpList_app _ rfl _ _ 49 49 rfl w.heap.size 54 i0 (.agg #[.string ⟨#[]⟩, .bool false, .bool false]) 3 24 Tryz.underlying49 hi hz0 hz1 hz2 rfl _ _ _ rfl (HROW.out.alloc _) _ 1 (encX (f.path, false, true)) rfl ?c1 ?c2 ?c3 ?c4 ?_))
            case c1 => exact src_chg w5 (f.path, false, true)
            case c2 => unfold maxLen; omega
            case c3 => omega
            case c4 => simp; omega
            intro v' wz hown hgrow hat
            have hmz : Mods (Value.slice A7 X.length c7).ownBlock.toList w5 wz := ((Mods.refl _ w5).alloc _).grown hgrow (fun x hx => Or.inl (by rw [hx]; simp))
            have HMz := Lib.hid (HRw5.out.trans hmz (fun x hx => Or.inr (HROW.out.lt x (by simpa using hx)).1))
            have HOz := Lib.hid (Chs.snoc hown)
            obtain ⟨A8, c8, rfl⟩ := own_ctor hown
            clear hown hgrow hat hmz HROW
            go_wp2_with fail
            exact ⟨⟨a, b + 1, _, by omega, by omega, rfl, rfl, HOz.out, by rw [List.length_append]; simp; omega, by rw [List.append_assoc]; exact HZZ.out, HMz.out⟩, by simp only [intOf]; omega⟩
      ·
        have hnb : decide (M.length ≤ b) = true := decide_eq_true (by omega)
        have hsb : decide (b < M.length) = false := decide_eq_false (by omega)
        have HZZ : Hid (X ++ ([(e.path, true, false)] ++ mrgE (L.drop (a + 1)) (M.drop b)) = mrgE L M) := Lib.hid (by
          have h := HZ0.out
          rw [HDA.out, List.drop_eq_nil_of_le hge2] at h
          rw [List.drop_eq_nil_of_le hge2]
          unfold mrgE at h ⊢
          rw [Dg.mrg] at h
          exact h)
        clear hs hrg hrd
        go_wp2_with fail
        refine wp_region_quiet (C := InC wr) (by kernel_rfl) (by kernel_rfl) (InC.drew wr) ?_
        dsimp only [List.toList_toArray, List.append]
        repeat (first | go_big_quiet_skip | (go_big_quiet_want; go_big_quiet_op; first | go_big_quiet_on | (apply Exists.intro; refine ⟨fun w' hw' => ?_, ?_⟩; (first | rfl | exact ⟨rfl, rfl⟩ | (rw [HE0.out w' hw']; exact ⟨rfl, rfl⟩)); go_big_quiet_on)))
        refine wpQuiet_nil ?_
        intro w3 hw
        have HRw3 := Lib.hid (HR0.out.trans hw (by simp))
        have HOw3 := Lib.hid (HO0.out.mods hw)
        have HE0 := Lib.hid (fun w' (hw' : InC w3 w') => HE0.out w' (Mods.trans hw hw' (by simp)))
        clear hw
        have c0 := HE0.out w3 (Mods.refl [] w3)
        have HROW : Hid (w3.ownsRow w.heap.size 54 3 _ X.length (X.flatMap encX)) := Lib.hid HOw3.out
        have hsz := HRw3.out.size
        obtain ⟨A7, c7, rfl⟩ := own_ctor HROW.out
        go_wp2_with (at_builtin; go_must (refine wpList_app _ rfl _ _ 49 49 rfl w.heap.size 54 i0 (.agg #[.string ⟨#[]⟩, .bool false, .bool false]) 3 24 Tryz.underlying49 hi hz0 hz1 hz2 rfl _ _ _ rfl (HROW.out.alloc _) _ 1 (encX (e.path, true, false)) rfl ?c1 ?c2 ?c3 ?c4 ?_))
        case c1 => exact src_chg w3 (e.path, true, false)
        case c2 => unfold maxLen; omega
        case c3 => omega
        case c4 => simp; omega
        intro v' wz hown hgrow hat
        have hmz : Mods (Value.slice A7 X.length c7).ownBlock.toList w3 wz := ((Mods.refl _ w3).alloc _).grown hgrow (fun x hx => Or.inl (by rw [hx]; simp))
        have HMz := Lib.hid (HRw3.out.trans hmz (fun x hx => Or.inr (HROW.out.lt x (by simpa using hx)).1))
        have HOz := Lib.hid (Chs.snoc hown)
        obtain ⟨A8, c8, rfl⟩ := own_ctor hown
        clear hown hgrow hat hmz HROW
        go_wp2_with fail
        exact ⟨⟨a + 1, b, _, by omega, by omega, rfl, rfl, HOz.out, by rw [List.length_append]; simp; omega, by rw [List.append_assoc]; exact HZZ.out, HMz.out⟩, by simp only [intOf]; omega⟩
    ·
      have hna : decide (L.length ≤ a) = true := decide_eq_true (by omega)
      have hsa : decide (a < L.length) = false := decide_eq_false (by omega)
      rcases Nat.lt_or_ge b M.length with hlt2 | hge2
      · obtain ⟨f, hs2⟩ : ∃ f, M[b]? = some f := ⟨_, List.getElem?_eq_getElem hlt2⟩
        have HDB : Hid (M.drop b = f :: M.drop (b + 1)) := Lib.hid (by rw [List.drop_eq_getElem_cons hlt2]; congr 1; exact (List.getElem?_eq_some_iff.1 hs2).2)
        obtain ⟨g2, off2, vd2, e2, hrg2, hrd2⟩ := (HM.out.mods HR0.out).at hs2
        have HF0 := Lib.hid (fun w' (hw : InC wr w') => (range_ent (range_mods hrg2 hw (by simp))).1)
        subst e2
        have HZZ : Hid (X ++ ([(f.path, false, true)] ++ mrgE (L.drop a) (M.drop (b + 1))) = mrgE L M) := Lib.hid (by
          have h := HZ0.out
          rw [HDB.out, List.drop_eq_nil_of_le hge] at h
          rw [List.drop_eq_nil_of_le hge]
          unfold mrgE at h ⊢
          rw [Dg.mrg] at h
          exact h)
        clear hs2 hrg2 hrd2
        go_wp2_with fail
        refine wp_region_quiet (C := InC wr) (by kernel_rfl) (by kernel_rfl) (InC.drew wr) ?_
        dsimp only [List.toList_toArray, List.append]
        repeat (first | go_big_quiet_skip | (go_big_quiet_want; go_big_quiet_op; first | go_big_quiet_on | (apply Exists.intro; refine ⟨fun w' hw' => ?_, ?_⟩; (first | rfl | exact ⟨rfl, rfl⟩ | (rw [HF0.out w' hw']; exact ⟨rfl, rfl⟩)); go_big_quiet_on)))
        refine wpQuiet_nil ?_
        intro w3 hw
        have HRw3 := Lib.hid (HR0.out.trans hw (by simp))
        have HOw3 := Lib.hid (HO0.out.mods hw)
        have HF0 := Lib.hid (fun w' (hw' : InC w3 w') => HF0.out w' (Mods.trans hw hw' (by simp)))
        clear hw
        have c0 := HF0.out w3 (Mods.refl [] w3)
        have HROW : Hid (w3.ownsRow w.heap.size 54 3 _ X.length (X.flatMap encX)) := Lib.hid HOw3.out
        have hsz := HRw3.out.size
        obtain ⟨A7, c7, rfl⟩ := own_ctor HROW.out
        go_wp2_with (at_builtin; go_must (refine wpList_app _ rfl _ _ 49 49 rfl w.heap.size 54 i0 (.agg #[.string ⟨#[]⟩, .bool false, .bool false]) 3 24 Tryz.underlying49 hi hz0 hz1 hz2 rfl _ _ _ rfl (HROW.out.alloc _) _ 1 (encX (f.path, false, true)) rfl ?c1 ?c2 ?c3 ?c4 ?_))
        case c1 => exact src_chg w3 (f.path, false, true)
        case c2 => unfold maxLen; omega
        case c3 => omega
        case c4 => simp; omega
        intro v' wz hown hgrow hat
        have hmz : Mods (Value.slice A7 X.length c7).ownBlock.toList w3 wz := ((Mods.refl _ w3).alloc _).grown hgrow (fun x hx => Or.inl (by rw [hx]; simp))
        have HMz := Lib.hid (HRw3.out.trans hmz (fun x hx => Or.inr (HROW.out.lt x (by simpa using hx)).1))
        have HOz := Lib.hid (Chs.snoc hown)
        obtain ⟨A8, c8, rfl⟩ := own_ctor hown
        clear hown hgrow hat hmz HROW
        go_wp2_with fail
        exact ⟨⟨a, b + 1, _, by omega, by omega, rfl, rfl, HOz.out, by rw [List.length_append]; simp; omega, by rw [List.append_assoc]; exact HZZ.out, HMz.out⟩, by simp only [intOf]; omega⟩
      · have hsb : decide (b < M.length) = false := decide_eq_false (by omega)
        have HZZ : Hid (X = mrgE L M) := Lib.hid (by
          have h := HZ0.out
          rw [List.drop_eq_nil_of_le hge, List.drop_eq_nil_of_le hge2] at h
          unfold mrgE at h ⊢
          rw [Dg.mrg, List.append_nil] at h
          exact h)
        go_wp2_with fail
        go_ret
        exact ⟨_, rfl, HZZ.out ▸ HO0.out, HR0.out⟩
end Go.Proofs.YtmcekhgmmocajaaGreatDoor
namespace Go.Proofs.YtmcekhgmmocajaaGreatDoor
open Go.RowKit Me Go.BigFrame
set_option maxRecDepth 100000 in
set_option maxHeartbeats 2000000 in
theorem rDiff_any {w : World} (a b : List UInt8) {va vb : Value} (ha : Rd w va (a.map byteV)) (hb : Rd w vb (b.map byteV)) (la : a.length ≤ 100000000) (lb : b.length ≤ 100000000) :
    Calls Tryz.prog 77 #[va, vb] w (DiffPost w (diffP a b)) := by
  have HB := Lib.hid hb
  have hD := rdecode_any a ha la
  rw [decR_eq la] at hD
  have HD := Lib.hid hD
  have HE := Lib.hid (show diffP a b = if (decP a).2 ≠ 0 ∨ (decP b).2 ≠ 0 then ([], 210) else (Dg.mrg cmpP EntP.path sameE (decP a).1 (decP b).1, 0) from rfl)
  have HC := Lib.hid (dec_cases a la)
  have HC2 := Lib.hid (dec_cases b lb)
  obtain ⟨Aa, ca, rfl, -⟩ := ha
  obtain ⟨Ab, cb, rfl, -⟩ := hb
  rw [List.length_map] at *
  clear hD
  go_enter Tryz.func77, Tryz.ntmps77
  go_wp2_with fail
  refine HD.out.mono ?_
  rintro x w1 ⟨v1, rfl, he, hm⟩
  have HM1 := Lib.hid hm
  have hD2 := rdecode_any b (HB.out.mods hm (by simp)) lb
  rw [decR_eq lb] at hD2
  have HD2 := Lib.hid hD2
  clear HD HB hD2 hm
  rcases HC.out with ⟨L, hd, henc, hsm, hml⟩ | hd
  · rw [hd] at he HE ⊢
    simp only at he
    have HEL := Lib.hid (fun w' (hw : Mods [] w1 w') => (he.mods0 hw).ents)
    have hsL := enc_may henc
    obtain ⟨A1, c1, rfl, -⟩ := he.ents
    clear he hd henc HC
    go_wp2_with fail
    refine HD2.out.mono ?_
    rintro x w2 ⟨v2, rfl, he, hm⟩
    have HM2 := Lib.hid (HM1.out.trans hm (by simp))
    rcases HC2.out with ⟨M, hd2, henc2, hsm2, hml2⟩ | hd2
    · rw [hd2] at he HE ⊢
      simp only at he
      have hsM := enc_may henc2
      have hL := HEL.out w2 hm
      have hM := he.ents
      obtain ⟨A2, c2, rfl, -⟩ := he.ents
      have HDD := Lib.hid (rdiff_any L M hL hM hsL hsM hml hml2)
      clear he hd2 henc2 hL hM hsL hsM hsm hsm2 HEL hm HC2
      go_wp2_with fail
      refine HDD.out.mono ?_
      rintro x w3 ⟨v3, rfl, ho, hm⟩
      have HO := Lib.hid (ownsRow_base ho HM2.out.size)
      have HM3 := Lib.hid (HM2.out.trans hm (by simp))
      obtain ⟨A3, c3, rfl⟩ := own_ctor ho
      clear ho hm HDD
      go_wp2_with fail
      go_ret2
      rw [HE.out, if_neg (by simp)]
      exact ⟨_, rfl, HO.out, HM3.out⟩
    · rw [hd2] at he HE ⊢
      obtain ⟨A2, c2, rfl⟩ := ento_nil he
      clear he hd2 hsm HEL hm HC2 hsL
      go_wp2_with fail
      go_ret2
      rw [HE.out, if_pos (Or.inr (by decide))]
      exact ⟨_, rfl, World.ownsRow_nil _ _ _ _, HM2.out⟩
  · rw [hd] at he HE ⊢
    obtain ⟨A1, c1, rfl⟩ := ento_nil he
    clear he hd HC
    go_wp2_with fail
    refine HD2.out.mono ?_
    rintro x w2 ⟨v2, rfl, he, hm⟩
    have HM2 := Lib.hid (HM1.out.trans hm (by simp))
    have hv : ∃ A c k, v2 = Value.slice A k c := by
      obtain ⟨A2, c2, rfl, -⟩ := he.ents
      exact ⟨_, _, _, rfl⟩
    obtain ⟨A2, c2, k, rfl⟩ := hv
    clear he HC2 HD2 hm
    go_wp2_with fail
    go_ret2
    rw [HE.out, if_pos (Or.inl (by decide))]
    exact ⟨_, rfl, World.ownsRow_nil _ _ _ _, HM2.out⟩
end Go.Proofs.YtmcekhgmmocajaaGreatDoor
