/- The reference's order, walked. -/
import Derived.Test.YtmcekhgmmocajaaGreatDoorRm
import Derived.Test.YtmcekhgmmocajaaGreatDoorRf
import Derived.Test.YtmcekhgmmocajaaGreatDoorOd
import Derived.Test.YtmcekhgmmocajaaGreatDoorPa
namespace Go.Proofs.YtmcekhgmmocajaaGreatDoor
open Go.RowKit Me Go.BigFrame

/-- Does the first entry of this path stand for a directory? -/
def dirAt (l : List EntP) (s : ByteArray) : Bool := match l.findIdx? (fun e => e.path.toList == s.toList) with
  | some i => (match l[i]? with | some d => isDirN d.mode | none => false)
  | none => false
def ordRAt (L : List EntP) (k : Nat) : Bool := match L[k]?, L[k + 1]? with
  | some x, some e => decide (cmpL (partsR x.path) (partsR e.path) < 0) && dirAt (L.take (k + 1)) (aboveB (partsR e.path))
  | _, _ => false
def ordRTo (L : List EntP) (k : Nat) : Bool := (List.range k).all (ordRAt L)
def ordR (L : List EntP) : Bool := (match L[0]? with | some e => e.path.toList == [46] | none => false) && ordRTo L (L.length - 1)
theorem ordRTo_snoc (L : List EntP) (k : Nat) : ordRTo L (k + 1) = (ordRTo L k && ordRAt L k) := by
  unfold ordRTo
  rw [List.range_succ, List.all_append]
  simp
theorem ordRTo_false (L : List EntP) (k : Nat) (h : ordRTo L k = false) (hk : k ≤ L.length - 1) : ordRTo L (L.length - 1) = false := by
  unfold ordRTo at h ⊢
  rw [List.all_eq_false] at h ⊢
  obtain ⟨x, hx, h2⟩ := h
  exact ⟨x, by rw [List.mem_range] at hx ⊢; omega, h2⟩
theorem cmpL_nil : ∀ l : List ByteArray, ¬ cmpL l [] < 0
  | [] => by decide
  | a :: l => by unfold cmpL; decide
def RelRo (w : World) (L : List EntP) (i : Value) (wr : World) : Prop := ∃ k : Nat, k + 1 ≤ L.length ∧ i = .int .i64 ((k : Int) + 1) ∧ ordRTo L k = true ∧ Mods [] w wr
set_option maxRecDepth 100000 in
set_option maxHeartbeats 2000000 in
theorem rorder_any {w : World} (L : List EntP) {v : Value} (h : Ents w v L) (hz : ∀ e ∈ L, Small e) (hL : L.length ≤ 100000000) (hne : L ≠ []) :
    Calls Tryz.prog 34 #[v] w fun x w' => x = .returned (.bool (ordR L)) ∧ Mods [] w w' := by
  have H := Lib.hid h
  have HZ := Lib.hid hz
  obtain ⟨A, c, rfl, hcap, -⟩ := h
  have h0 : 0 < L.length := List.length_pos_iff.2 hne
  obtain ⟨e0, he0⟩ : ∃ e, L[0]? = some e := ⟨_, List.getElem?_eq_getElem h0⟩
  obtain ⟨g, off, vd0, rfl, hrg0, -⟩ := H.out.at he0
  have c0 := (range_ent hrg0).1
  simp only [Nat.zero_mul, Nat.add_zero] at c0
  have HR : Hid (ordR L = ((e0.path.toList == [46]) && ordRTo L (L.length - 1))) := Lib.hid (by unfold ordR; rw [he0])
  clear hz hne he0 hrg0
  generalize ordR L = r at *
  go_enter Tryz.func34, Tryz.ntmps34
  cases hq : e0.path.toList == [46]
  · have HV : Hid (r = false) := Lib.hid (by rw [HR.out, hq]; rfl)
    go_wp2_with fail
    go_ret
    exact ⟨by rw [HV.out]; rfl, Mods.refl _ _⟩
  · have HV : Hid (r = ordRTo L (L.length - 1)) := Lib.hid (by rw [HR.out, hq]; rfl)
    go_wp2_with fail
    clear c0 hq
    go_loopw [3] (fun i wr => RelRo w L i wr) (fun i _ => L.length - (intOf i).toNat)
    case atStart => exact ⟨0, by omega, rfl, rfl, Mods.refl _ _⟩
    case round =>
      obtain ⟨k, hk, rfl, ho, hm⟩ := hrel
      have HM := Lib.hid hm
      have HO := Lib.hid ho
      clear hm ho
      rcases Nat.lt_or_ge (k + 1) L.length with hlt | hge
      · obtain ⟨e, hs⟩ : ∃ e, L[k + 1]? = some e := ⟨_, List.getElem?_eq_getElem hlt⟩
        obtain ⟨x, hx⟩ : ∃ x, L[k]? = some x := ⟨_, List.getElem?_eq_getElem (by omega)⟩
        have hse := HZ.out e (List.mem_of_getElem? hs)
        have hsx := HZ.out x (List.mem_of_getElem? hx)
        have HSN : Hid (ordRTo L (k + 1) = (decide (cmpL (partsR x.path) (partsR e.path) < 0) && dirAt (L.take (k + 1)) (aboveB (partsR e.path)))) := Lib.hid (by
          rw [ordRTo_snoc, HO.out]
          unfold ordRAt
          rw [hx, hs]
          rfl)
        have HE : Hid (∀ w', InC wr w' → w'.cell? ⟨g, off + (k + 1) * 5, none⟩ = some (.string e.path)) := Lib.hid (fun w' hw => by
          obtain ⟨g', off', vd', e', hr', _⟩ := (H.out.mods (HM.out.trans hw (by simp))).at hs
          cases e'
          exact (range_ent hr').1)
        have HX : Hid (∀ w', InC wr w' → w'.cell? ⟨g, off + k * 5, none⟩ = some (.string x.path)) := Lib.hid (fun w' hw => by
          obtain ⟨g', off', vd', e', hr', _⟩ := (H.out.mods (HM.out.trans hw (by simp))).at hx
          cases e'
          exact (range_ent hr').1)
        have HAH := Lib.hid (fun w' (hw : InC wr w') => (ahead_any x.path e.path w' (by have := hsx.path; omega) (by have := hse.path; omega)).mono fun _ _ hh => (⟨hh.1, Mods.trans hw hh.2 (by simp)⟩ : _ ∧ InC wr _))
        clear hs hx
        go_wp2_with fail
        refine wp_region_quiet (C := InC wr) (by kernel_rfl) (by kernel_rfl) (InC.drew wr) ?_
        dsimp only [List.toList_toArray]
        repeat (first | go_big_quiet_skip | (go_big_quiet_want; go_big_quiet_op; first | go_big_quiet_on | (apply Exists.intro; refine ⟨fun w' hw' => ?_, ?_⟩; (first | rfl | (rw [HE.out w' hw']; exact ⟨rfl, rfl⟩) | (rw [HX.out w' hw']; exact ⟨rfl, rfl⟩)); go_big_quiet_on)))
        refine wpQuiet_step (fun K hK => ?_)
        go_simp
        refine ⟨_, fun w' hw' => HAH.out w' hw', hK _ ?_⟩
        clear hK K
        refine wpQuiet_step (fun K hK => ?_)
        go_simp
        refine ⟨_, fun _ _ => rfl, hK _ ?_⟩
        clear hK K
        refine wpQuiet_nil ?_
        intro w5 hw5
        have HM5 := Lib.hid (HM.out.trans hw5 (by simp))
        have HX5 := Lib.hid (fun w' (hw : InC w5 w') => HX.out w' (Mods.trans hw5 hw (by simp)))
        have HE5 := Lib.hid (fun w' (hw : InC w5 w') => HE.out w' (Mods.trans hw5 hw (by simp)))
        clear HX HE hw5 HAH
        by_cases hc : cmpL (partsR x.path) (partsR e.path) < 0
        · have hpne : partsR e.path ≠ [] := fun h => cmpL_nil _ (by rw [h] at hc; exact hc)
          rw [decide_eq_true hc]
          rw [decide_eq_true hc] at HSN
          clear hc
          have HAB := Lib.hid (fun w' (hw : InC w5 w') => (above_any e.path w' (by have := hse.path; omega) hpne).mono fun _ _ hh => (⟨hh.1, Mods.trans hw hh.2 (by simp)⟩ : _ ∧ InC w5 _))
          have HFI := Lib.hid (fun w' (hw : InC w5 w') => (find_any (L.take (k + 1)) (aboveB (partsR e.path)) (((H.out.mods HM5.out).mods hw).take (k + 1) (by omega)) (by rw [List.length_take]; omega)).mono fun _ _ hh => (⟨hh.1, Mods.trans hw hh.2 (by simp)⟩ : _ ∧ InC w5 _))
          have HDA : Hid (match (L.take (k + 1)).findIdx? (fun e' => e'.path.toList == (aboveB (partsR e.path)).toList) with
            | some i => ∃ d, i < k + 1 ∧ L[i]? = some d ∧ findE (L.take (k + 1)) (aboveB (partsR e.path)) = (i : Int) ∧ ordRTo L (k + 1) = isDirN d.mode
            | none => findE (L.take (k + 1)) (aboveB (partsR e.path)) = -1 ∧ ordRTo L (k + 1) = false) := Lib.hid (by
            rw [HSN.out]
            unfold findE dirAt
            cases hf : (L.take (k + 1)).findIdx? (fun e' => e'.path.toList == (aboveB (partsR e.path)).toList) with
            | none => exact ⟨rfl, rfl⟩
            | some i =>
              have hi : i < (L.take (k + 1)).length := (List.findIdx?_eq_some_iff_findIdx_eq.1 hf).1
              rw [List.length_take] at hi
              refine ⟨L[i], by omega, List.getElem?_eq_getElem (by omega), rfl, ?_⟩
              have h3 : (L.take (k + 1))[i]? = some (L[i]'(by omega)) := by rw [List.getElem?_take, if_pos (by omega), List.getElem?_eq_getElem (by omega)]
              show (true && (match (L.take (k + 1))[i]? with | some d => isDirN d.mode | none => false)) = _
              rw [h3]
              rfl)
          clear HSN
          generalize findE (L.take (k + 1)) (aboveB (partsR e.path)) = fi at *
          generalize aboveB (partsR e.path) = ab at *
          clear hpne
          go_wp2_with fail
          refine wp_region_quiet (C := InC w5) (by kernel_rfl) (by kernel_rfl) (InC.drew w5) ?_
          dsimp only [List.toList_toArray]
          repeat (first | go_big_quiet_skip | (go_big_quiet_want; go_big_quiet_op; first | go_big_quiet_on | (apply Exists.intro; refine ⟨fun w' hw' => ?_, ?_⟩; (first | rfl | (rw [HE5.out w' hw']; exact ⟨rfl, rfl⟩) | (rw [HX5.out w' hw']; exact ⟨rfl, rfl⟩)); go_big_quiet_on)))
          refine wpQuiet_step (fun K hK => ?_)
          go_simp
          refine ⟨_, fun w' hw' => HAB.out w' hw', hK _ ?_⟩
          clear hK K
          refine wpQuiet_step (fun K hK => ?_)
          go_simp
          refine ⟨_, fun w' hw' => HFI.out w' hw', hK _ ?_⟩
          clear hK K
          refine wpQuiet_step (fun K hK => ?_)
          go_simp
          refine ⟨_, fun _ _ => rfl, hK _ ?_⟩
          clear hK K
          refine wpQuiet_nil ?_
          intro w6 hw6
          have HM6 := Lib.hid (HM5.out.trans hw6 (by simp))
          clear HX5 HE5 hw6 HAB HFI
          have HDO := HDA.out
          revert HDO
          cases (L.take (k + 1)).findIdx? (fun e' => e'.path.toList == ab.toList) with
          | none =>
            rintro ⟨rfl, hno⟩
            have HNO := Lib.hid (ordRTo_false L (k + 1) hno (by omega))
            clear HDA hno
            go_wp2_with fail
            go_ret
            exact ⟨by rw [HV.out, HNO.out]; rfl, HM6.out⟩
          | some i =>
            rintro ⟨d, hi, hd, rfl, hord⟩
            have HORD := Lib.hid hord
            obtain ⟨g', off', vd', e', hr', -⟩ := (H.out.mods HM6.out).at hd
            cases e'
            have c0 := (range_ent hr').2.1
            have hi2 : i < L.length := by omega
            have HDI := Lib.hid (fun w' => dir_any d.mode w')
            clear HDA hord hd hr'
            go_wp2_with fail
            refine (HDI.out _).mono ?_
            rintro x' w7 ⟨rfl, hm7⟩
            have HM7 := Lib.hid (HM6.out.trans hm7 (by simp))
            clear hm7 c0 HDI
            cases hdd : isDirN d.mode
            · have HNO := Lib.hid (ordRTo_false L (k + 1) (by rw [HORD.out, hdd]) (by omega))
              clear hdd
              go_wp2_with fail
              go_ret
              exact ⟨by rw [HV.out, HNO.out]; rfl, HM7.out⟩
            · have HYE := Lib.hid (HORD.out.trans hdd)
              clear hdd
              go_wp2_with fail
              exact ⟨⟨k + 1, by omega, rfl, HYE.out, HM7.out⟩, by simp only [intOf]; omega⟩
        · have HNO := Lib.hid (ordRTo_false L (k + 1) (by rw [HSN.out, decide_eq_false hc]; rfl) (by omega))
          rw [decide_eq_false hc]
          clear hc HSN
          go_wp2_with fail
          go_ret
          exact ⟨by rw [HV.out, HNO.out]; rfl, HM5.out⟩
      · have HN : Hid (r = true) := Lib.hid (by rw [HV.out, show L.length - 1 = k by omega]; exact HO.out)
        go_wp2_with fail
        go_ret
        exact ⟨by rw [HN.out]; rfl, HM.out⟩
end Go.Proofs.YtmcekhgmmocajaaGreatDoor
