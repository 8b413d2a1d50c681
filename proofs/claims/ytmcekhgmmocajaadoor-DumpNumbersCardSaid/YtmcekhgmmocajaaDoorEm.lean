/- dump.may, walked. -/
import Derived.Test.YtmcekhgmmocajaaDoorEa
namespace Go.Proofs.YtmcekhgmmocajaaDoor
open Go.RowKit Me

theorem Tabs.mods {w w' : World} (hT : Tabs w) (h : Mods [] w w') : Tabs w' := hT.keep (h.toBelow (by simp))
set_option maxRecDepth 100000 in
set_option maxHeartbeats 2000000 in
theorem may_any (e : EntP) (vd : Value) (w : World) (hf : e.Fits) (hv : Rd w vd (e.data.map byteV)) (hp : e.path.size < 4294967281) (hg : e.gid.size ≤ maxLen) (hT : Tabs w) :
    Calls Tryd.prog 14 #[entV e vd] w fun x w' => x = .returned (.bool (mayE e)) ∧ Mods [] w w' := by
  obtain ⟨A, c, rfl, -⟩ := hv
  rw [List.length_map]
  have H1 := Lib.hid (fun w' (hw : Mods [] w w') => nclean_any e.path w' hp (hT.mods hw))
  have H2 := Lib.hid (fun s p w' => Tryd.strings_HasPrefix s p w')
  have H3 := Lib.hid (fun w' => isdir_any e (.slice A e.data.length c) w' hf.mode)
  have H4 := Lib.hid (fun w' (hw : Mods [] w w') => goodgid_any e.gid w' hg (hT.mods hw))
  have B1 := Lib.hid (bits_andNot e.mode hf.mode)
  have B2 := Lib.hid (bits_two e.mode hf.mode)
  have HQ := Lib.hid (show mayE e = (pathOk e.path && (decide (bitsRest e.mode < 512) && !(isDirN e.mode && (twoN e.mode || decide (0 < e.data.length)))) && (decide (e.mtime ≠ 4294967295) && gidOk e.gid && decide (e.data.length ≤ 65536) && decide (e.path.size ≤ 65535))) from rfl)
  have HP := Lib.hid (show pathOk e.path = (fit (pieces e.path) && ((cleanB e.path).toList == e.path.toList) && !Lib.hasPrefix e.path.data.toList [47] && !(e.path.toList == [46, 46]) && !Lib.hasPrefix e.path.data.toList [46, 46, 47]) from rfl)
  have E1 : Hid ((cleanB e.path).toList == e.path.toList → cleanB e.path = e.path) := Lib.hid (fun h => data_inj (by
    have := eq_of_beq h
    rwa [Lib.toList_data, Lib.toList_data] at this))
  clear hf hp hg hT
  unfold entV at *
  obtain ⟨path, mode, mtime, gid, data⟩ := e
  simp only at *
  generalize mayE _ = q at *
  generalize pathOk path = pq at *
  generalize isDirN mode = di at *
  generalize twoN mode = tw at *
  generalize gidOk gid = gq at *
  generalize bitsRest mode = br at *
  generalize data.length = n at *
  generalize cleanB path = cp at *
  have HA := Lib.hid ((Mods.refl [] w).alloc (.cells #[.string path, .int .u32 (mode : Int), .int .u32 (mtime : Int), .string gid, .slice A n c] 38))
  have FIN : Hid (∀ (w1 w2 : World), Mods [] (w.alloc (.cells #[.string path, .int .u32 (mode : Int), .int .u32 (mtime : Int), .string gid, .slice A n c] 38)) w1 → 
      w1.heap[w.heap.size]? = some (.cells #[.string path, .int .u32 (mode : Int), .int .u32 (mtime : Int), .string gid, .slice A n c] 38 (0, 0))) := Lib.hid (fun w1 _ h => h.heap (heap_alloc_new w _) (by simp))
  cases hfit : fit (pieces path)
  · simp only [hfit, Bool.false_and, Bool.false_eq_true, if_false] at H1 HP
    go_enter Tryd.func14, Tryd.ntmps14
    go_wp2_with fail
    refine (H1.out _ HA.out).mono ?_
    rintro x w1 ⟨rfl, hm⟩
    have HM := Lib.hid hm
    clear hm
    go_wp2_with fail
    go_ret
    exact ⟨by rw [HQ.out, HP.out]; rfl, HA.out.trans HM.out (by simp)⟩
  · simp only [hfit, Bool.true_and, if_true] at H1 HP
    cases e1 : cp.toList == path.toList
    · simp only [e1, Bool.false_and] at HP
      go_enter Tryd.func14, Tryd.ntmps14
      go_wp2_with fail
      refine (H1.out _ HA.out).mono ?_
      rintro x w1 ⟨rfl, hm⟩
      have hbx := FIN.out w1 w1 hm
      have c0 := cell_of_row _ _ 0 _ _ _ hbx
      have c1 := cell_of_row _ _ 1 _ _ _ hbx
      have c2 := cell_of_row _ _ 2 _ _ _ hbx
      have c3 := cell_of_row _ _ 3 _ _ _ hbx
      have c4 := cell_of_row _ _ 4 _ _ _ hbx
      simp only [List.getElem?_toArray, List.getElem?_cons_zero, List.getElem?_cons_succ] at c0 c1 c2 c3 c4
      have HM := Lib.hid hm
      clear hm hbx
      go_wp2_with fail
      go_ret
      exact ⟨by rw [HQ.out, HP.out]; rfl, HA.out.trans HM.out (by simp)⟩
    · obtain rfl := E1.out e1
      simp only [e1, Bool.true_and] at HP
      clear E1
      have P1 := Lib.hid (fun w' => H2.out cp ⟨#[47]⟩ w')
      have P2 := Lib.hid (fun w' => H2.out cp ⟨#[46, 46, 47]⟩ w')
      rw [show (⟨#[47]⟩ : ByteArray).data.toList = [47] from rfl] at P1
      rw [show (⟨#[46, 46, 47]⟩ : ByteArray).data.toList = [46, 46, 47] from rfl] at P2
      generalize Lib.hasPrefix cp.data.toList [47] = a1 at *
      generalize Lib.hasPrefix cp.data.toList [46, 46, 47] = a3 at *
      clear H2
      go_enter Tryd.func14, Tryd.ntmps14
      go_wp2_with fail
      refine (H1.out _ HA.out).mono ?_
      rintro x w1 ⟨rfl, hm⟩
      have hbx := FIN.out w1 w1 hm
      have c0 := cell_of_row _ _ 0 _ _ _ hbx
      have c1 := cell_of_row _ _ 1 _ _ _ hbx
      have c2 := cell_of_row _ _ 2 _ _ _ hbx
      have c3 := cell_of_row _ _ 3 _ _ _ hbx
      have c4 := cell_of_row _ _ 4 _ _ _ hbx
      simp only [List.getElem?_toArray, List.getElem?_cons_zero, List.getElem?_cons_succ] at c0 c1 c2 c3 c4
      have HM := Lib.hid (HA.out.trans hm (by simp))
      have HBX := Lib.hid hbx
      clear hm hbx H1
      cases a1
      rotate_left
      · go_wp2_with fail
        (refine (P1.out _).mono ?_; rintro x w2 ⟨rfl, rfl⟩)
        go_wp2_with fail
        go_ret
        exact ⟨by rw [HQ.out, HP.out]; rfl, HM.out⟩
      cases e2 : cp.toList == [46, 46]
      rotate_left
      · simp only [e2] at HP
        go_wp2_with fail
        (refine (P1.out _).mono ?_; rintro x w2 ⟨rfl, rfl⟩)
        go_wp2_with fail
        go_ret
        exact ⟨by rw [HQ.out, HP.out]; rfl, HM.out⟩
      cases a3
      rotate_left
      · go_wp2_with fail
        (refine (P1.out _).mono ?_; rintro x w2 ⟨rfl, rfl⟩)
        go_wp2_with fail
        (refine (P2.out _).mono ?_; rintro x w2 ⟨rfl, rfl⟩)
        go_wp2_with fail
        go_ret
        exact ⟨by rw [HQ.out, HP.out]; simp, HM.out⟩
      simp only [e2] at HP
      by_cases hbr : 512 ≤ br
      · rw [decide_eq_true hbr] at B1
        rw [show decide (br < 512) = false from decide_eq_false (by omega)] at HQ
        have b1 := B1.out
        go_wp2_with fail
        (refine (P1.out _).mono ?_; rintro x w2 ⟨rfl, rfl⟩)
        go_wp2_with fail
        (refine (P2.out _).mono ?_; rintro x w2 ⟨rfl, rfl⟩)
        go_wp2_with fail
        go_ret
        exact ⟨by rw [HQ.out, HP.out]; simp, HM.out⟩
      · rw [decide_eq_false hbr] at B1
        rw [show decide (br < 512) = true from decide_eq_true (by omega)] at HQ
        have HSZ := Lib.hid (show decide ((cp.size : Int) ≤ 65535) = decide (cp.size ≤ 65535) from decide_eq_decide.2 (by omega))
        have b1 := B1.out
        go_wp2_with fail
        refine (P1.out _).mono ?_
        rintro x w2 ⟨rfl, rfl⟩
        go_wp2_with fail
        refine (P2.out _).mono ?_
        rintro x w2 ⟨rfl, rfl⟩
        go_wp2_with fail
        refine (H3.out _).mono ?_
        rintro x w3 ⟨rfl, hm⟩
        have hbx := hm.heap HBX.out (by simp)
        have c0 := cell_of_row _ _ 0 _ _ _ hbx
        have c1 := cell_of_row _ _ 1 _ _ _ hbx
        have c2 := cell_of_row _ _ 2 _ _ _ hbx
        have c3 := cell_of_row _ _ 3 _ _ _ hbx
        have c4 := cell_of_row _ _ 4 _ _ _ hbx
        simp only [List.getElem?_toArray, List.getElem?_cons_zero, List.getElem?_cons_succ] at c0 c1 c2 c3 c4
        have HBX3 := Lib.hid hbx
        have HM3 := Lib.hid (HM.out.trans hm (by simp))
        clear hm hbx HM HBX
        have HM := HM3
        have HBX := HBX3
        clear HM3 HBX3
        cases di
        · by_cases hmt : mtime = 4294967295
          · subst hmt
            go_wp2_with fail
            go_ret
            exact ⟨by rw [HQ.out, HP.out]; simp [], HM.out⟩
          · have hmt2 : ((mtime : Int) != 4294967295) = true := bne_iff_ne.2 (by omega)
            go_wp2_with fail
            refine (H4.out _ HM.out).mono ?_
            rintro x w4 ⟨rfl, hm⟩
            have hbx := hm.heap HBX.out (by simp)
            have c0 := cell_of_row _ _ 0 _ _ _ hbx
            have c1 := cell_of_row _ _ 1 _ _ _ hbx
            have c2 := cell_of_row _ _ 2 _ _ _ hbx
            have c3 := cell_of_row _ _ 3 _ _ _ hbx
            have c4 := cell_of_row _ _ 4 _ _ _ hbx
            simp only [List.getElem?_toArray, List.getElem?_cons_zero, List.getElem?_cons_succ] at c0 c1 c2 c3 c4
            have HM4 := Lib.hid (HM.out.trans hm (by simp))
            clear hm hbx
            cases gq
            · go_wp2_with fail
              go_ret
              exact ⟨by rw [HQ.out, HP.out]; simp, HM4.out⟩
            · by_cases hn6 : n ≤ 65536
              · go_wp2_with fail
                go_ret
                exact ⟨by rw [HQ.out, HP.out]; show Ending.returned (.bool (decide ((cp.size : Int) ≤ 65535))) = _; rw [HSZ.out]; simp [hmt, hn6], HM4.out⟩
              · go_wp2_with fail
                go_ret
                exact ⟨by rw [HQ.out, HP.out]; simp [hn6], HM4.out⟩
        · cases tw
          · have b2 := B2.out
            by_cases hn : 0 < n
            · go_wp2_with fail
              go_ret
              exact ⟨by rw [HQ.out, HP.out]; simp [hn], HM.out⟩
            · by_cases hmt : mtime = 4294967295
              · subst hmt
                go_wp2_with fail
                go_ret
                exact ⟨by rw [HQ.out, HP.out]; simp [], HM.out⟩
              · have hmt2 : ((mtime : Int) != 4294967295) = true := bne_iff_ne.2 (by omega)
                go_wp2_with fail
                refine (H4.out _ HM.out).mono ?_
                rintro x w4 ⟨rfl, hm⟩
                have hbx := hm.heap HBX.out (by simp)
                have c0 := cell_of_row _ _ 0 _ _ _ hbx
                have c1 := cell_of_row _ _ 1 _ _ _ hbx
                have c2 := cell_of_row _ _ 2 _ _ _ hbx
                have c3 := cell_of_row _ _ 3 _ _ _ hbx
                have c4 := cell_of_row _ _ 4 _ _ _ hbx
                simp only [List.getElem?_toArray, List.getElem?_cons_zero, List.getElem?_cons_succ] at c0 c1 c2 c3 c4
                have HM4 := Lib.hid (HM.out.trans hm (by simp))
                clear hm hbx
                cases gq
                · go_wp2_with fail
                  go_ret
                  exact ⟨by rw [HQ.out, HP.out]; simp, HM4.out⟩
                · by_cases hn6 : n ≤ 65536
                  · go_wp2_with fail
                    go_ret
                    exact ⟨by rw [HQ.out, HP.out]; show Ending.returned (.bool (decide ((cp.size : Int) ≤ 65535))) = _; rw [HSZ.out]; simp [hmt, hn6, hn], HM4.out⟩
                  · exfalso; omega
          · have b2 := B2.out
            go_wp2_with fail
            go_ret
            exact ⟨by rw [HQ.out, HP.out]; simp [], HM.out⟩
end Go.Proofs.YtmcekhgmmocajaaDoor
