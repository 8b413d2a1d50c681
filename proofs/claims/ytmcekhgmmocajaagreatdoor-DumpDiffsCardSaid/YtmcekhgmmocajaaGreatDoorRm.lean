/- The reference's may, walked. -/
import Derived.Test.YtmcekhgmmocajaaGreatDoorPa
namespace Go.Proofs.YtmcekhgmmocajaaGreatDoor
open Go.RowKit Me

set_option maxRecDepth 100000 in
set_option maxHeartbeats 4000000 in
theorem rmay_any (e : EntP) (vd : Value) (w : World) (hf : e.Fits) (hv : Rd w vd (e.data.map byteV)) (hp : e.path.size ≤ 200000000) (hg : e.gid.size ≤ 200000000) :
    Calls Tryz.prog 33 #[entV e vd] w fun x w' => x = .returned (.bool (mayE e)) ∧ Mods [] w w' := by
  obtain ⟨A, c, rfl, -⟩ := hv
  rw [List.length_map]
  have H1 := Lib.hid (fun w' => rclean_any e.path w' hp)
  have H2 := Lib.hid (fun w' => rsplit_any e.path w' (by omega))
  have H3 := Lib.hid (fun w' => rgood_any e.gid w' (by omega))
  have H4 := Lib.hid (fun w' => dir_any e.mode w')
  have H5 := Lib.hid (fun w' => bits_any e.mode w' hf.mode)
  have HDH := Lib.hid (fun hc hr => dots_head e.path hc hr)
  have hmode := hf.mode
  have HPS := Lib.hid hp
  have HTW := Lib.hid (show twoN e.mode = decide (e.mode / 1073741824 % 2 = 1 ∨ e.mode / 536870912 % 2 = 1) from rfl)
  have HGO := Lib.hid (show gidOk e.gid = (Tx.good e.gid.data.toList && decide (e.gid.size ≤ 32)) from rfl)
  have HQ := Lib.hid (show mayE e = (pathOk e.path && (decide (bitsRest e.mode < 512) && !(isDirN e.mode && (twoN e.mode || decide (0 < e.data.length)))) && (decide (e.mtime ≠ 4294967295) && gidOk e.gid && decide (e.data.length ≤ 65536) && decide (e.path.size ≤ 65535))) from rfl)
  have HP := Lib.hid (show pathOk e.path = (fit (pieces e.path) && ((cleanB e.path).toList == e.path.toList) && !rootedB e.path && !(e.path.toList == [46, 46]) && !Lib.hasPrefix e.path.data.toList [46, 46, 47]) from rfl)
  have E1 : Hid ((cleanB e.path).toList == e.path.toList → cleanB e.path = e.path) := Lib.hid (fun h => data_inj (by
    have := eq_of_beq h
    rwa [Lib.toList_data, Lib.toList_data] at this))
  have HA := Lib.hid ((Mods.refl [] w).alloc (.cells #[.string e.path, .int .u32 (e.mode : Int), .int .u32 (e.mtime : Int), .string e.gid, .slice A e.data.length c] 47))
  have HBX := Lib.hid (heap_alloc_new w (.cells #[.string e.path, .int .u32 (e.mode : Int), .int .u32 (e.mtime : Int), .string e.gid, .slice A e.data.length c] 47))
  clear hf hp hg
  unfold entV
  obtain ⟨path, mode, mtime, gid, data⟩ := e
  simp only at *
  generalize mayE _ = q at *
  generalize pathOk path = pq at *
  generalize isDirN mode = di at *
  generalize twoN mode = tw at *
  generalize gidOk gid = gq at *
  generalize Tx.good gid.data.toList = gd at *
  generalize bitsRest mode = br at *
  generalize data.length = n at *
  generalize rootedB path = rt at *
  have HKB : Hid ((kept (pieces path)).length ≤ 4294967290) := Lib.hid (by
    have h1 := List.length_filter_le (fun p => !skipP p) (pieces path)
    have h2 := pieces_length path
    have h3 := Lib.countB_le ⟨#[47]⟩ (by decide) _ path (Nat.le_refl _)
    have h4 := HPS.out
    unfold kept
    omega)
  generalize hkk : kept (pieces path) = K at *
  generalize cleanB path = cp at *
  generalize fit (pieces path) = ft at *
  clear hkk
  cases ft
  · have HVF : Hid (q = false) := Lib.hid (by rw [HQ.out, HP.out]; rfl)
    simp only [Bool.false_and, Bool.false_eq_true, if_false] at H1 H2
    go_enter Tryz.func33, Tryz.ntmps33
    go_wp2_with fail
    generalize w.alloc (.cells #[.string path, .int .u32 (mode : Int), .int .u32 (mtime : Int), .string gid, .slice A n c] 47) = w1 at *
    refine (H1.out _).mono ?_
    rintro x w2 ⟨rfl, hm⟩
    have hbx := hm.heap HBX.out (by simp)
    have c0 := cell_of_row _ _ 0 _ _ _ hbx
    have c1 := cell_of_row _ _ 1 _ _ _ hbx
    have c2 := cell_of_row _ _ 2 _ _ _ hbx
    have c3 := cell_of_row _ _ 3 _ _ _ hbx
    have c4 := cell_of_row _ _ 4 _ _ _ hbx
    simp only [List.getElem?_toArray, List.getElem?_cons_zero, List.getElem?_cons_succ] at c0 c1 c2 c3 c4
    have HBX2 := Lib.hid hbx
    have HM2 := Lib.hid (HA.out.trans hm (by simp))
    clear hm hbx HBX HA H1
    go_wp2_with fail
    refine (H2.out _).mono ?_
    rintro x w3 ⟨v, rfl, hm, ho⟩
    obtain ⟨B, cb, rfl⟩ := own_ctor ho
    have hbx := (hm.alloc (.cells #[.bool false, .slice B 0 cb] 103)).heap HBX2.out (by simp)
    have c0 := cell_of_row _ _ 0 _ _ _ hbx
    have c1 := cell_of_row _ _ 1 _ _ _ hbx
    have c2 := cell_of_row _ _ 2 _ _ _ hbx
    have c3 := cell_of_row _ _ 3 _ _ _ hbx
    have c4 := cell_of_row _ _ 4 _ _ _ hbx
    simp only [List.getElem?_toArray, List.getElem?_cons_zero, List.getElem?_cons_succ] at c0 c1 c2 c3 c4
    have HM3 := Lib.hid ((HM2.out.trans hm (by simp)).alloc (.cells #[.bool false, .slice B 0 cb] 103))
    have HBX3 := Lib.hid hbx
    have HPB := Lib.hid (heap_alloc_new w3 (.cells #[.bool false, .slice B 0 cb] 103))
    have HRK := Lib.hid (ho.alloc (.cells #[.bool false, .slice B 0 cb] 103))
    clear hm hbx ho HBX2 HM2 H2
    go_wp2_with fail
    generalize w3.alloc (.cells #[.bool false, .slice B 0 cb] 103) = w4 at *
    refine (H3.out _).mono ?_
    rintro x w5 ⟨rfl, rfl⟩
    have b0 := cell_of_row _ _ 0 _ _ _ HPB.out
    have b1 := cell_of_row _ _ 1 _ _ _ HPB.out
    simp only [List.getElem?_toArray, List.getElem?_cons_zero, List.getElem?_cons_succ] at b0 b1
    have HM := HM3
    clear HM3
    go_wp2_with fail
    go_ret
    exact ⟨by rw [HVF.out]; rfl, HM.out⟩
  simp only [Bool.true_and, if_true] at H1 H2
  go_enter Tryz.func33, Tryz.ntmps33
  go_wp2_with fail
  generalize w.alloc (.cells #[.string path, .int .u32 (mode : Int), .int .u32 (mtime : Int), .string gid, .slice A n c] 47) = w1 at *
  refine (H1.out _).mono ?_
  rintro x w2 ⟨rfl, hm⟩
  have hbx := hm.heap HBX.out (by simp)
  have c0 := cell_of_row _ _ 0 _ _ _ hbx
  have c1 := cell_of_row _ _ 1 _ _ _ hbx
  have c2 := cell_of_row _ _ 2 _ _ _ hbx
  have c3 := cell_of_row _ _ 3 _ _ _ hbx
  have c4 := cell_of_row _ _ 4 _ _ _ hbx
  simp only [List.getElem?_toArray, List.getElem?_cons_zero, List.getElem?_cons_succ] at c0 c1 c2 c3 c4
  have HBX2 := Lib.hid hbx
  have HM2 := Lib.hid (HA.out.trans hm (by simp))
  clear hm hbx HBX HA H1
  go_wp2_with fail
  refine (H2.out _).mono ?_
  rintro x w3 ⟨v, rfl, hm, ho⟩
  obtain ⟨B, cb, rfl⟩ := own_ctor ho
  have hbx := (hm.alloc (.cells #[.bool rt, .slice B K.length cb] 103)).heap HBX2.out (by simp)
  have c0 := cell_of_row _ _ 0 _ _ _ hbx
  have c1 := cell_of_row _ _ 1 _ _ _ hbx
  have c2 := cell_of_row _ _ 2 _ _ _ hbx
  have c3 := cell_of_row _ _ 3 _ _ _ hbx
  have c4 := cell_of_row _ _ 4 _ _ _ hbx
  simp only [List.getElem?_toArray, List.getElem?_cons_zero, List.getElem?_cons_succ] at c0 c1 c2 c3 c4
  have HM3 := Lib.hid ((HM2.out.trans hm (by simp)).alloc (.cells #[.bool rt, .slice B K.length cb] 103))
  have HBX3 := Lib.hid hbx
  have HPB := Lib.hid (heap_alloc_new w3 (.cells #[.bool rt, .slice B K.length cb] 103))
  have HRK := Lib.hid (ho.alloc (.cells #[.bool rt, .slice B K.length cb] 103))
  clear hm hbx ho HBX2 HM2 H2
  go_wp2_with fail
  generalize w3.alloc (.cells #[.bool rt, .slice B K.length cb] 103) = w4 at *
  refine (H3.out _).mono ?_
  rintro x w5 ⟨rfl, rfl⟩
  have b0 := cell_of_row _ _ 0 _ _ _ HPB.out
  have b1 := cell_of_row _ _ 1 _ _ _ HPB.out
  simp only [List.getElem?_toArray, List.getElem?_cons_zero, List.getElem?_cons_succ] at b0 b1
  have HM := HM3
  clear HM3
  cases e1 : cp.toList == path.toList
  · have HVF : Hid (q = false) := Lib.hid (by rw [HQ.out, HP.out, e1]; rfl)
    go_wp2_with fail
    go_ret
    exact ⟨by rw [HVF.out]; rfl, HM.out⟩
  obtain rfl := E1.out e1
  by_cases hsz : 65535 < cp.size
  · have HVF : Hid (q = false) := Lib.hid (by rw [HQ.out, decide_eq_false (show ¬ cp.size ≤ 65535 by omega)]; simp)
    go_wp2_with fail
    go_ret
    exact ⟨by rw [HVF.out]; rfl, HM.out⟩
  cases rt
  rotate_left
  · have HVF : Hid (q = false) := Lib.hid (by rw [HQ.out, HP.out]; simp)
    go_wp2_with fail
    go_ret
    exact ⟨by rw [HVF.out]; rfl, HM.out⟩
  have HD := Lib.hid (HDH.out rfl rfl)
  have hpq : pq = !(cp.toList == [46, 46] || Lib.hasPrefix cp.data.toList [46, 46, 47]) := by rw [HP.out, e1]; simp
  rw [HD.out] at hpq
  have HPQ := Lib.hid hpq
  clear HP HD HDH hpq
  cases K with
  | nil =>
    have HPT : Hid (pq = true) := Lib.hid (by rw [HPQ.out]; rfl)
    simp only [List.length_nil] at *
    go_wp2_with fail
    refine (H4.out _).mono ?_
    rintro x w6 ⟨rfl, hm⟩
    have hbx := hm.heap HBX3.out (by simp)
    have c0 := cell_of_row _ _ 0 _ _ _ hbx
    have c1 := cell_of_row _ _ 1 _ _ _ hbx
    have c2 := cell_of_row _ _ 2 _ _ _ hbx
    have c3 := cell_of_row _ _ 3 _ _ _ hbx
    have c4 := cell_of_row _ _ 4 _ _ _ hbx
    simp only [List.getElem?_toArray, List.getElem?_cons_zero, List.getElem?_cons_succ] at c0 c1 c2 c3 c4
    have HBX6 := Lib.hid hbx
    have HM6 := Lib.hid (HM.out.trans hm (by simp))
    clear hm hbx HBX3 HM H4
    go_wp2_with fail
    refine (H5.out _).mono ?_
    rintro x w7 ⟨rfl, hm⟩
    have hbx := hm.heap HBX6.out (by simp)
    have c0 := cell_of_row _ _ 0 _ _ _ hbx
    have c1 := cell_of_row _ _ 1 _ _ _ hbx
    have c2 := cell_of_row _ _ 2 _ _ _ hbx
    have c3 := cell_of_row _ _ 3 _ _ _ hbx
    have c4 := cell_of_row _ _ 4 _ _ _ hbx
    simp only [List.getElem?_toArray, List.getElem?_cons_zero, List.getElem?_cons_succ] at c0 c1 c2 c3 c4
    have HM := Lib.hid (HM6.out.trans hm (by simp))
    clear hm hbx HBX6 HM6 H5
    by_cases hbr : br < 512
    rotate_left
    · have hbr2 : decide (br < 512) = false := decide_eq_false hbr
      have HVF : Hid (q = false) := Lib.hid (by rw [HQ.out]; rw [hbr2]; simp)
      go_wp2_with fail
      go_ret
      exact ⟨by rw [HVF.out]; rfl, HM.out⟩
    have hbr2 : decide (br < 512) = true := decide_eq_true hbr
    cases di
    · by_cases hmt : mtime = 4294967295
      · subst hmt
        have HVF : Hid (q = false) := Lib.hid (by rw [HQ.out]; simp)
        go_wp2_with fail
        go_ret
        exact ⟨by rw [HVF.out]; rfl, HM.out⟩
      have hmt2 : ((mtime : Int) == 4294967295) = false := by simp; omega
      cases gd
      · have HVF : Hid (q = false) := Lib.hid (by rw [HQ.out]; rw [HGO.out]; simp)
        go_wp2_with fail
        go_ret
        exact ⟨by rw [HVF.out]; rfl, HM.out⟩
      by_cases hg32 : 32 < gid.size
      · have HVF : Hid (q = false) := Lib.hid (by rw [HQ.out]; rw [HGO.out, decide_eq_false (show ¬ gid.size ≤ 32 by omega)]; simp)
        go_wp2_with fail
        go_ret
        exact ⟨by rw [HVF.out]; rfl, HM.out⟩
      by_cases hd6 : 65536 < n
      · have HVF : Hid (q = false) := Lib.hid (by rw [HQ.out]; rw [decide_eq_false (show ¬ n ≤ 65536 by omega)]; simp)
        go_wp2_with fail
        go_ret
        exact ⟨by rw [HVF.out]; rfl, HM.out⟩
      have HVT : Hid (q = true) := Lib.hid (by rw [HQ.out, HPT.out, HGO.out]; simp [hbr, hmt, decide_eq_true (show gid.size ≤ 32 by omega), decide_eq_true (show n ≤ 65536 by omega), decide_eq_true (show cp.size ≤ 65535 by omega)]; try omega)
      go_wp2_with fail
      go_ret
      exact ⟨by rw [HVT.out]; rfl, HM.out⟩
    · by_cases h1 : mode / 1073741824 % 2 = 1
      · have HTT : tw = true := by rw [HTW.out]; exact decide_eq_true (Or.inl h1)
        have hi1 : ((mode : Int) / 1073741824 % 2 == 1) = true := by simp; omega
        have HVF : Hid (q = false) := Lib.hid (by rw [HQ.out]; rw [HTT]; simp)
        go_wp2_with fail
        go_ret
        exact ⟨by rw [HVF.out]; rfl, HM.out⟩
      have hi1 : ((mode : Int) / 1073741824 % 2 == 1) = false := by simp; omega
      by_cases h2 : mode / 536870912 % 2 = 1
      · have HTT : tw = true := by rw [HTW.out]; exact decide_eq_true (Or.inr h2)
        have hi2 : ((mode : Int) / 536870912 % 2 == 1) = true := by simp; omega
        have HVF : Hid (q = false) := Lib.hid (by rw [HQ.out]; rw [HTT]; simp)
        go_wp2_with fail
        go_ret
        exact ⟨by rw [HVF.out]; rfl, HM.out⟩
      have hi2 : ((mode : Int) / 536870912 % 2 == 1) = false := by simp; omega
      have HTF : tw = false := by rw [HTW.out]; exact decide_eq_false (by omega)
      by_cases hmt : mtime = 4294967295
      · subst hmt
        have HVF : Hid (q = false) := Lib.hid (by rw [HQ.out]; simp)
        go_wp2_with fail
        go_ret
        exact ⟨by rw [HVF.out]; rfl, HM.out⟩
      have hmt2 : ((mtime : Int) == 4294967295) = false := by simp; omega
      cases gd
      · have HVF : Hid (q = false) := Lib.hid (by rw [HQ.out]; rw [HGO.out]; simp)
        go_wp2_with fail
        go_ret
        exact ⟨by rw [HVF.out]; rfl, HM.out⟩
      by_cases hg32 : 32 < gid.size
      · have HVF : Hid (q = false) := Lib.hid (by rw [HQ.out]; rw [HGO.out, decide_eq_false (show ¬ gid.size ≤ 32 by omega)]; simp)
        go_wp2_with fail
        go_ret
        exact ⟨by rw [HVF.out]; rfl, HM.out⟩
      by_cases hd6 : 65536 < n
      · have HVF : Hid (q = false) := Lib.hid (by rw [HQ.out]; rw [decide_eq_false (show ¬ n ≤ 65536 by omega)]; simp)
        go_wp2_with fail
        go_ret
        exact ⟨by rw [HVF.out]; rfl, HM.out⟩
      by_cases hn0 : n = 0
      · subst hn0
        have HVT : Hid (q = true) := Lib.hid (by rw [HQ.out, HPT.out, HGO.out]; simp [hbr, hmt, HTF, decide_eq_true (show gid.size ≤ 32 by omega), decide_eq_true (show cp.size ≤ 65535 by omega)]; try omega)
        go_wp2_with fail
        go_ret
        exact ⟨by rw [HVT.out]; rfl, HM.out⟩
      · have hn1 : (((n : Int) == 0) = false) := by simp; exact hn0
        have HVF : Hid (q = false) := Lib.hid (by rw [HQ.out]; simp [hn0]; try omega)
        go_wp2_with fail
        go_ret
        exact ⟨by rw [HVF.out]; rfl, HM.out⟩
  | cons p0 K =>
    obtain ⟨g, rfl⟩ : ∃ g, B = some ⟨g, 0, none⟩ := by
      rcases ownsRow_form HRK.out with ⟨e, h1, _⟩ | ⟨g, cap, e, _⟩
      · simp at h1
      · cases e; exact ⟨g, rfl⟩
    have hp0 : w4.cell? ⟨g, 0, none⟩ = some (.string p0) := by
      have := HRK.out.cells (g := g) rfl 0 (.string p0) rfl
      rw [Addr.add_lit] at this
      simpa using this
    have hKl : ∃ m, (p0 :: K).length = m + 1 := ⟨K.length, rfl⟩
    obtain ⟨m, hm1⟩ := hKl
    have hKb : m + 1 ≤ 4294967290 := by have := HKB.out; rw [hm1] at this; exact this
    rw [hm1] at *
    cases e2 : p0.toList == [46, 46]
    rotate_left
    · have HPT : Hid (pq = false) := Lib.hid (by rw [HPQ.out]; show (!(p0.toList == [46, 46])) = false; rw [e2]; rfl)
      have HVF : Hid (q = false) := Lib.hid (by rw [HQ.out]; rw [HPT.out]; rfl)
      go_wp2_with fail
      go_ret
      exact ⟨by rw [HVF.out]; rfl, HM.out⟩
    have HPT : Hid (pq = true) := Lib.hid (by rw [HPQ.out]; show (!(p0.toList == [46, 46])) = true; rw [e2]; rfl)
    go_wp2_with fail
    refine (H4.out _).mono ?_
    rintro x w6 ⟨rfl, hm⟩
    have hbx := hm.heap HBX3.out (by simp)
    have c0 := cell_of_row _ _ 0 _ _ _ hbx
    have c1 := cell_of_row _ _ 1 _ _ _ hbx
    have c2 := cell_of_row _ _ 2 _ _ _ hbx
    have c3 := cell_of_row _ _ 3 _ _ _ hbx
    have c4 := cell_of_row _ _ 4 _ _ _ hbx
    simp only [List.getElem?_toArray, List.getElem?_cons_zero, List.getElem?_cons_succ] at c0 c1 c2 c3 c4
    have HBX6 := Lib.hid hbx
    have HM6 := Lib.hid (HM.out.trans hm (by simp))
    clear hm hbx HBX3 HM H4
    go_wp2_with fail
    refine (H5.out _).mono ?_
    rintro x w7 ⟨rfl, hm⟩
    have hbx := hm.heap HBX6.out (by simp)
    have c0 := cell_of_row _ _ 0 _ _ _ hbx
    have c1 := cell_of_row _ _ 1 _ _ _ hbx
    have c2 := cell_of_row _ _ 2 _ _ _ hbx
    have c3 := cell_of_row _ _ 3 _ _ _ hbx
    have c4 := cell_of_row _ _ 4 _ _ _ hbx
    simp only [List.getElem?_toArray, List.getElem?_cons_zero, List.getElem?_cons_succ] at c0 c1 c2 c3 c4
    have HM := Lib.hid (HM6.out.trans hm (by simp))
    clear hm hbx HBX6 HM6 H5
    by_cases hbr : br < 512
    rotate_left
    · have hbr2 : decide (br < 512) = false := decide_eq_false hbr
      have HVF : Hid (q = false) := Lib.hid (by rw [HQ.out]; rw [hbr2]; simp)
      go_wp2_with fail
      go_ret
      exact ⟨by rw [HVF.out]; rfl, HM.out⟩
    have hbr2 : decide (br < 512) = true := decide_eq_true hbr
    cases di
    · by_cases hmt : mtime = 4294967295
      · subst hmt
        have HVF : Hid (q = false) := Lib.hid (by rw [HQ.out]; simp)
        go_wp2_with fail
        go_ret
        exact ⟨by rw [HVF.out]; rfl, HM.out⟩
      have hmt2 : ((mtime : Int) == 4294967295) = false := by simp; omega
      cases gd
      · have HVF : Hid (q = false) := Lib.hid (by rw [HQ.out]; rw [HGO.out]; simp)
        go_wp2_with fail
        go_ret
        exact ⟨by rw [HVF.out]; rfl, HM.out⟩
      by_cases hg32 : 32 < gid.size
      · have HVF : Hid (q = false) := Lib.hid (by rw [HQ.out]; rw [HGO.out, decide_eq_false (show ¬ gid.size ≤ 32 by omega)]; simp)
        go_wp2_with fail
        go_ret
        exact ⟨by rw [HVF.out]; rfl, HM.out⟩
      by_cases hd6 : 65536 < n
      · have HVF : Hid (q = false) := Lib.hid (by rw [HQ.out]; rw [decide_eq_false (show ¬ n ≤ 65536 by omega)]; simp)
        go_wp2_with fail
        go_ret
        exact ⟨by rw [HVF.out]; rfl, HM.out⟩
      have HVT : Hid (q = true) := Lib.hid (by rw [HQ.out, HPT.out, HGO.out]; simp [hbr, hmt, decide_eq_true (show gid.size ≤ 32 by omega), decide_eq_true (show n ≤ 65536 by omega), decide_eq_true (show cp.size ≤ 65535 by omega)]; try omega)
      go_wp2_with fail
      go_ret
      exact ⟨by rw [HVT.out]; rfl, HM.out⟩
    · by_cases h1 : mode / 1073741824 % 2 = 1
      · have HTT : tw = true := by rw [HTW.out]; exact decide_eq_true (Or.inl h1)
        have hi1 : ((mode : Int) / 1073741824 % 2 == 1) = true := by simp; omega
        have HVF : Hid (q = false) := Lib.hid (by rw [HQ.out]; rw [HTT]; simp)
        go_wp2_with fail
        go_ret
        exact ⟨by rw [HVF.out]; rfl, HM.out⟩
      have hi1 : ((mode : Int) / 1073741824 % 2 == 1) = false := by simp; omega
      by_cases h2 : mode / 536870912 % 2 = 1
      · have HTT : tw = true := by rw [HTW.out]; exact decide_eq_true (Or.inr h2)
        have hi2 : ((mode : Int) / 536870912 % 2 == 1) = true := by simp; omega
        have HVF : Hid (q = false) := Lib.hid (by rw [HQ.out]; rw [HTT]; simp)
        go_wp2_with fail
        go_ret
        exact ⟨by rw [HVF.out]; rfl, HM.out⟩
      have hi2 : ((mode : Int) / 536870912 % 2 == 1) = false := by simp; omega
      have HTF : tw = false := by rw [HTW.out]; exact decide_eq_false (by omega)
      by_cases hmt : mtime = 4294967295
      · subst hmt
        have HVF : Hid (q = false) := Lib.hid (by rw [HQ.out]; simp)
        go_wp2_with fail
        go_ret
        exact ⟨by rw [HVF.out]; rfl, HM.out⟩
      have hmt2 : ((mtime : Int) == 4294967295) = false := by simp; omega
      cases gd
      · have HVF : Hid (q = false) := Lib.hid (by rw [HQ.out]; rw [HGO.out]; simp)
        go_wp2_with fail
        go_ret
        exact ⟨by rw [HVF.out]; rfl, HM.out⟩
      by_cases hg32 : 32 < gid.size
      · have HVF : Hid (q = false) := Lib.hid (by rw [HQ.out]; rw [HGO.out, decide_eq_false (show ¬ gid.size ≤ 32 by omega)]; simp)
        go_wp2_with fail
        go_ret
        exact ⟨by rw [HVF.out]; rfl, HM.out⟩
      by_cases hd6 : 65536 < n
      · have HVF : Hid (q = false) := Lib.hid (by rw [HQ.out]; rw [decide_eq_false (show ¬ n ≤ 65536 by omega)]; simp)
        go_wp2_with fail
        go_ret
        exact ⟨by rw [HVF.out]; rfl, HM.out⟩
      by_cases hn0 : n = 0
      · subst hn0
        have HVT : Hid (q = true) := Lib.hid (by rw [HQ.out, HPT.out, HGO.out]; simp [hbr, hmt, HTF, decide_eq_true (show gid.size ≤ 32 by omega), decide_eq_true (show cp.size ≤ 65535 by omega)]; try omega)
        go_wp2_with fail
        go_ret
        exact ⟨by rw [HVT.out]; rfl, HM.out⟩
      · have hn1 : (((n : Int) == 0) = false) := by simp; exact hn0
        have HVF : Hid (q = false) := Lib.hid (by rw [HQ.out]; simp [hn0]; try omega)
        go_wp2_with fail
        go_ret
        exact ⟨by rw [HVF.out]; rfl, HM.out⟩
end Go.Proofs.YtmcekhgmmocajaaGreatDoor
