/- Clean path names: their parts, on both sides. No program. | The reference's may, walked. | The reference's above. | The reference's find, of a list's first entries. | The reference's order, walked. -/
import Derived.Test.YtmcekhgmmocajaaGreatDoorRu
import Derived.Test.YtmcekhgmmocajaaGreatDoorSb
import Derived.Test.YtmcekhgmmocajaaGreatDoorOd
namespace Go.Proofs.YtmcekhgmmocajaaGreatDoor
open Go.RowKit

theorem clean_pieces (s : ByteArray) (hc : cleanB s = s) (hr : rootedB s = false) : (kept (pieces s) = [] ∧ s = ⟨#[46]⟩) ∨ (kept (pieces s) ≠ [] ∧ kept (pieces s) = pieces s) := by
  unfold cleanB at hc
  rw [hr] at hc
  by_cases h0 : reduce false (kept (pieces s)) = []
  · left
    rw [h0] at hc
    have hs : s = ⟨#[46]⟩ := hc.symm
    subst hs
    refine ⟨?_, rfl⟩
    rw [pc46]
    simp [kept, sk46]
  · right
    have hs : mkB (joinS (reduce false (kept (pieces s)))) = s := by
      unfold joinP at hc
      rw [if_neg (by simp), if_neg (by simpa using h0)] at hc
      exact hc
    have hmem : ∀ p ∈ reduce false (kept (pieces s)), p ∈ kept (pieces s) := fun p hp => reduce_mem _ _ _ hp
    have hp : pieces s = reduce false (kept (pieces s)) := by
      conv => lhs; rw [← hs]
      refine pieces_joinS _ h0 fun p hp => ?_
      have := hmem p hp
      unfold kept at this
      exact pieces_mem s p (List.mem_filter.1 this).1
    have hk : kept (pieces s) = pieces s := by
      unfold kept
      rw [List.filter_eq_self]
      intro p hpp
      rw [hp] at hpp
      have := hmem p hpp
      unfold kept at this
      exact (List.mem_filter.1 this).2
    refine ⟨?_, hk⟩
    rw [hk]
    exact pieces_ne s
theorem cut_head (l : List UInt8) : (cut l).head? = some (l.takeWhile (fun b => b != 47)) := by
  induction l with
  | nil => rfl
  | cons b l ih =>
    unfold cut
    by_cases hb : b = 47
    · simp [hb]
    · rw [if_neg hb]
      cases hc : cut l with
      | nil => exact absurd hc (cut_ne l)
      | cons p r =>
        rw [hc] at ih
        simp at ih
        simp [hb, ih]
theorem dots_take (l : List UInt8) : (l == [46, 46] || Lib.hasPrefix l [46, 46, 47]) = (l.takeWhile (fun b => b != 47) == [46, 46]) := by
  unfold Lib.hasPrefix
  match l with
  | [] => rfl
  | [a] =>
    by_cases h : a = 47 <;> simp [List.isPrefixOf, h]
  | [a, b] =>
    by_cases h : a = 47 <;> by_cases h2 : b = 47 <;> simp [List.isPrefixOf, h, h2]
    all_goals (intros; subst_vars; simp_all)
  | a :: b :: c :: t =>
    by_cases h : a = 47 <;> by_cases h2 : b = 47 <;> by_cases h3 : c = 47 <;> simp [List.isPrefixOf, h, h2, h3]
    all_goals (try (intros; subst_vars; simp_all; done))
    all_goals first
      | exact fun e => h3 e.symm
      | (rw [show ((46 : UInt8) == a) = (a == 46) from BEq.comm, show ((46 : UInt8) == b) = (b == 46) from BEq.comm])
      | (intros; subst_vars; simp_all; intro e; exact h3 e.symm)
/-- Does the path begin by going up? -/
theorem dots_head (s : ByteArray) (hc : cleanB s = s) (hr : rootedB s = false) : (s.toList == [46, 46] || Lib.hasPrefix s.data.toList [46, 46, 47]) = (match (kept (pieces s))[0]? with | some p => p.toList == [46, 46] | none => false) := by
  rw [Lib.toList_data]
  rcases clean_pieces s hc hr with ⟨h1, rfl⟩ | ⟨h1, h2⟩
  · rw [h1]
    rfl
  · rw [h2, dots_take]
    have h3 := cut_head s.data.toList
    have h4 : (pieces s)[0]? = some (mkB (s.data.toList.takeWhile (fun b => b != 47))) := by
      rw [pieces_eq, List.getElem?_map, ← List.head?_eq_getElem?, h3]
      rfl
    rw [h4]
    show _ = ((mkB _).toList == [46, 46])
    rw [Lib.toList_data, data_mkB]
theorem parts_same (s : ByteArray) (hf : fit (pieces s) = true) (hc : cleanB s = s) (hr : rootedB s = false) : partsP s = partsR s := by
  unfold partsP partsR
  rw [if_pos hf]
  rcases clean_pieces s hc hr with ⟨h1, rfl⟩ | ⟨h1, h2⟩
  · rw [h1]
    simp [Lib.toList_data]
  · have hne : (s.toList == [46]) = false := by
      rcases Bool.eq_false_or_eq_true (s.toList == [46]) with h | h
      · exfalso
        have e : s = ⟨#[46]⟩ := data_inj (by
          have := eq_of_beq h
          rwa [Lib.toList_data] at this)
        subst e
        apply h1
        rw [pc46]
        simp [kept, sk46]
      · exact h
    rw [hne, h2]
    rfl
end Go.Proofs.YtmcekhgmmocajaaGreatDoor
namespace Go.Proofs.YtmcekhgmmocajaaGreatDoor
open Go.RowKit Me

set_option maxRecDepth 100000 in
set_option maxHeartbeats 4000000 in
theorem rmay_any (e : EntP) (vd : Value) (w : World) (hf : e.Fits) (hv : Rd w vd (e.data.map byteV)) (hp : e.path.size ≤ 200000000) (hg : e.gid.size ≤ 200000000) :
    Calls Tryz.prog 33 #[entV e vd] w fun x w' => x = .returned (.bool (mayE e)) ∧ Mods [] w w' := by
  obtain ⟨A, c, rfl, -⟩ := hv
  rw [List.length_map]
  have H1 := Lib.hid (fun w' => rclean_any e.path w' hp)
  have H2 := Lib.hid (fun w' => rsplit_any e.path w' (by omega))
  have H3 := Lib.hid (fun w' => rgood_any e.gid w' (by omega))
  have H4 := Lib.hid (fun w' => dir_any e.mode w')
  have H5 := Lib.hid (fun w' => bits_any e.mode w' hf.mode)
  have HDH := Lib.hid (fun hc hr => dots_head e.path hc hr)
  have hmode := hf.mode
  have HPS := Lib.hid hp
  have HTW := Lib.hid (show twoN e.mode = decide (e.mode / 1073741824 % 2 = 1 ∨ e.mode / 536870912 % 2 = 1) from rfl)
  have HGO := Lib.hid (show gidOk e.gid = (Tx.good e.gid.data.toList && decide (e.gid.size ≤ 32)) from rfl)
  have HQ := Lib.hid (show mayE e = (pathOk e.path && (decide (bitsRest e.mode < 512) && !(isDirN e.mode && (twoN e.mode || decide (0 < e.data.length)))) && (decide (e.mtime ≠ 4294967295) && gidOk e.gid && decide (e.data.length ≤ 65536) && decide (e.path.size ≤ 65535))) from rfl)
  have HP := Lib.hid (show pathOk e.path = (fit (pieces e.path) && ((cleanB e.path).toList == e.path.toList) && !rootedB e.path && !(e.path.toList == [46, 46]) && !Lib.hasPrefix e.path.data.toList [46, 46, 47]) from rfl)
  have E1 : Hid ((cleanB e.path).toList == e.path.toList → cleanB e.path = e.path) := Lib.hid (fun h => data_inj (by
    have := eq_of_beq h
    rwa [Lib.toList_data, Lib.toList_data] at this))
  have HA := Lib.hid ((Mods.refl [] w).alloc (.cells #[.string e.path, .int .u32 (e.mode : Int), .int .u32 (e.mtime : Int), .string e.gid, .slice A e.data.length c] 47))
  have HBX := Lib.hid (heap_alloc_new w (.cells #[.string e.path, .int .u32 (e.mode : Int), .int .u32 (e.mtime : Int), .string e.gid, .slice A e.data.length c] 47))
  clear hf hp hg
  unfold entV
  obtain ⟨path, mode, mtime, gid, data⟩ := e
  simp only at *
  generalize mayE _ = q at *
  generalize pathOk path = pq at *
  generalize isDirN mode = di at *
  generalize twoN mode = tw at *
  generalize gidOk gid = gq at *
  generalize Tx.good gid.data.toList = gd at *
  generalize bitsRest mode = br at *
  generalize data.length = n at *
  generalize rootedB path = rt at *
  have HKB : Hid ((kept (pieces path)).length ≤ 4294967290) := Lib.hid (by
    have h1 := List.length_filter_le (fun p => !skipP p) (pieces path)
    have h2 := pieces_length path
    have h3 := Lib.countB_le ⟨#[47]⟩ (by decide) _ path (Nat.le_refl _)
    have h4 := HPS.out
    unfold kept
    omega)
  generalize hkk : kept (pieces path) = K at *
  generalize cleanB path = cp at *
  generalize fit (pieces path) = ft at *
  clear hkk
  cases ft
  · have HVF : Hid (q = false) := Lib.hid (by rw [HQ.out, HP.out]; rfl)
    simp only [Bool.false_and, Bool.false_eq_true, if_false] at H1 H2
    go_enter Tryz.func33, Tryz.ntmps33
    go_wp2_with fail
    generalize w.alloc (.cells #[.string path, .int .u32 (mode : Int), .int .u32 (mtime : Int), .string gid, .slice A n c] 47) = w1 at *
    refine (H1.out _).mono ?_
    rintro x w2 ⟨rfl, hm⟩
    have hbx := hm.heap HBX.out (by simp)
    have c0 := cell_of_row _ _ 0 _ _ _ hbx
    have c1 := cell_of_row _ _ 1 _ _ _ hbx
    have c2 := cell_of_row _ _ 2 _ _ _ hbx
    have c3 := cell_of_row _ _ 3 _ _ _ hbx
    have c4 := cell_of_row _ _ 4 _ _ _ hbx
    simp only [List.getElem?_toArray, List.getElem?_cons_zero, List.getElem?_cons_succ] at c0 c1 c2 c3 c4
    have HBX2 := Lib.hid hbx
    have HM2 := Lib.hid (HA.out.trans hm (by simp))
    clear hm hbx HBX HA H1
    go_wp2_with fail
    refine (H2.out _).mono ?_
    rintro x w3 ⟨v, rfl, hm, ho⟩
    obtain ⟨B, cb, rfl⟩ := own_ctor ho
    have hbx := (hm.alloc (.cells #[.bool false, .slice B 0 cb] 103)).heap HBX2.out (by simp)
    have c0 := cell_of_row _ _ 0 _ _ _ hbx
    have c1 := cell_of_row _ _ 1 _ _ _ hbx
    have c2 := cell_of_row _ _ 2 _ _ _ hbx
    have c3 := cell_of_row _ _ 3 _ _ _ hbx
    have c4 := cell_of_row _ _ 4 _ _ _ hbx
    simp only [List.getElem?_toArray, List.getElem?_cons_zero, List.getElem?_cons_succ] at c0 c1 c2 c3 c4
    have HM3 := Lib.hid ((HM2.out.trans hm (by simp)).alloc (.cells #[.bool false, .slice B 0 cb] 103))
    have HBX3 := Lib.hid hbx
    have HPB := Lib.hid (heap_alloc_new w3 (.cells #[.bool false, .slice B 0 cb] 103))
    have HRK := Lib.hid (ho.alloc (.cells #[.bool false, .slice B 0 cb] 103))
    clear hm hbx ho HBX2 HM2 H2
    go_wp2_with fail
    generalize w3.alloc (.cells #[.bool false, .slice B 0 cb] 103) = w4 at *
    refine (H3.out _).mono ?_
    rintro x w5 ⟨rfl, rfl⟩
    have b0 := cell_of_row _ _ 0 _ _ _ HPB.out
    have b1 := cell_of_row _ _ 1 _ _ _ HPB.out
    simp only [List.getElem?_toArray, List.getElem?_cons_zero, List.getElem?_cons_succ] at b0 b1
    have HM := HM3
    clear HM3
    go_wp2_with fail
    go_ret
    exact ⟨by rw [HVF.out]; rfl, HM.out⟩
  simp only [Bool.true_and, if_true] at H1 H2
  go_enter Tryz.func33, Tryz.ntmps33
  go_wp2_with fail
  generalize w.alloc (.cells #[.string path, .int .u32 (mode : Int), .int .u32 (mtime : Int), .string gid, .slice A n c] 47) = w1 at *
  refine (H1.out _).mono ?_
  rintro x w2 ⟨rfl, hm⟩
  have hbx := hm.heap HBX.out (by simp)
  have c0 := cell_of_row _ _ 0 _ _ _ hbx
  have c1 := cell_of_row _ _ 1 _ _ _ hbx
  have c2 := cell_of_row _ _ 2 _ _ _ hbx
  have c3 := cell_of_row _ _ 3 _ _ _ hbx
  have c4 := cell_of_row _ _ 4 _ _ _ hbx
  simp only [List.getElem?_toArray, List.getElem?_cons_zero, List.getElem?_cons_succ] at c0 c1 c2 c3 c4
  have HBX2 := Lib.hid hbx
  have HM2 := Lib.hid (HA.out.trans hm (by simp))
  clear hm hbx HBX HA H1
  go_wp2_with fail
  refine (H2.out _).mono ?_
  rintro x w3 ⟨v, rfl, hm, ho⟩
  obtain ⟨B, cb, rfl⟩ := own_ctor ho
  have hbx := (hm.alloc (.cells #[.bool rt, .slice B K.length cb] 103)).heap HBX2.out (by simp)
  have c0 := cell_of_row _ _ 0 _ _ _ hbx
  have c1 := cell_of_row _ _ 1 _ _ _ hbx
  have c2 := cell_of_row _ _ 2 _ _ _ hbx
  have c3 := cell_of_row _ _ 3 _ _ _ hbx
  have c4 := cell_of_row _ _ 4 _ _ _ hbx
  simp only [List.getElem?_toArray, List.getElem?_cons_zero, List.getElem?_cons_succ] at c0 c1 c2 c3 c4
  have HM3 := Lib.hid ((HM2.out.trans hm (by simp)).alloc (.cells #[.bool rt, .slice B K.length cb] 103))
  have HBX3 := Lib.hid hbx
  have HPB := Lib.hid (heap_alloc_new w3 (.cells #[.bool rt, .slice B K.length cb] 103))
  have HRK := Lib.hid (ho.alloc (.cells #[.bool rt, .slice B K.length cb] 103))
  clear hm hbx ho HBX2 HM2 H2
  go_wp2_with fail
  generalize w3.alloc (.cells #[.bool rt, .slice B K.length cb] 103) = w4 at *
  refine (H3.out _).mono ?_
  rintro x w5 ⟨rfl, rfl⟩
  have b0 := cell_of_row _ _ 0 _ _ _ HPB.out
  have b1 := cell_of_row _ _ 1 _ _ _ HPB.out
  simp only [List.getElem?_toArray, List.getElem?_cons_zero, List.getElem?_cons_succ] at b0 b1
  have HM := HM3
  clear HM3
  cases e1 : cp.toList == path.toList
  · have HVF : Hid (q = false) := Lib.hid (by rw [HQ.out, HP.out, e1]; rfl)
    go_wp2_with fail
    go_ret
    exact ⟨by rw [HVF.out]; rfl, HM.out⟩
  obtain rfl := E1.out e1
  by_cases hsz : 65535 < cp.size
  · have HVF : Hid (q = false) := Lib.hid (by rw [HQ.out, decide_eq_false (show ¬ cp.size ≤ 65535 by omega)]; simp)
    go_wp2_with fail
    go_ret
    exact ⟨by rw [HVF.out]; rfl, HM.out⟩
  cases rt
  rotate_left
  · have HVF : Hid (q = false) := Lib.hid (by rw [HQ.out, HP.out]; simp)
    go_wp2_with fail
    go_ret
    exact ⟨by rw [HVF.out]; rfl, HM.out⟩
  have HD := Lib.hid (HDH.out rfl rfl)
  have hpq : pq = !(cp.toList == [46, 46] || Lib.hasPrefix cp.data.toList [46, 46, 47]) := by rw [HP.out, e1]; simp
  rw [HD.out] at hpq
  have HPQ := Lib.hid hpq
  clear HP HD HDH hpq
  cases K with
  | nil =>
    have HPT : Hid (pq = true) := Lib.hid (by rw [HPQ.out]; rfl)
    simp only [List.length_nil] at *
    go_wp2_with fail
    refine (H4.out _).mono ?_
    rintro x w6 ⟨rfl, hm⟩
    have hbx := hm.heap HBX3.out (by simp)
    have c0 := cell_of_row _ _ 0 _ _ _ hbx
    have c1 := cell_of_row _ _ 1 _ _ _ hbx
    have c2 := cell_of_row _ _ 2 _ _ _ hbx
    have c3 := cell_of_row _ _ 3 _ _ _ hbx
    have c4 := cell_of_row _ _ 4 _ _ _ hbx
    simp only [List.getElem?_toArray, List.getElem?_cons_zero, List.getElem?_cons_succ] at c0 c1 c2 c3 c4
    have HBX6 := Lib.hid hbx
    have HM6 := Lib.hid (HM.out.trans hm (by simp))
    clear hm hbx HBX3 HM H4
    go_wp2_with fail
    refine (H5.out _).mono ?_
    rintro x w7 ⟨rfl, hm⟩
    have hbx := hm.heap HBX6.out (by simp)
    have c0 := cell_of_row _ _ 0 _ _ _ hbx
    have c1 := cell_of_row _ _ 1 _ _ _ hbx
    have c2 := cell_of_row _ _ 2 _ _ _ hbx
    have c3 := cell_of_row _ _ 3 _ _ _ hbx
    have c4 := cell_of_row _ _ 4 _ _ _ hbx
    simp only [List.getElem?_toArray, List.getElem?_cons_zero, List.getElem?_cons_succ] at c0 c1 c2 c3 c4
    have HM := Lib.hid (HM6.out.trans hm (by simp))
    clear hm hbx HBX6 HM6 H5
    by_cases hbr : br < 512
    rotate_left
    · have hbr2 : decide (br < 512) = false := decide_eq_false hbr
      have HVF : Hid (q = false) := Lib.hid (by rw [HQ.out]; rw [hbr2]; simp)
      go_wp2_with fail
      go_ret
      exact ⟨by rw [HVF.out]; rfl, HM.out⟩
    have hbr2 : decide (br < 512) = true := decide_eq_true hbr
    cases di
    · by_cases hmt : mtime = 4294967295
      · subst hmt
        have HVF : Hid (q = false) := Lib.hid (by rw [HQ.out]; simp)
        go_wp2_with fail
        go_ret
        exact ⟨by rw [HVF.out]; rfl, HM.out⟩
      have hmt2 : ((mtime : Int) == 4294967295) = false := by simp; omega
      cases gd
      · have HVF : Hid (q = false) := Lib.hid (by rw [HQ.out]; rw [HGO.out]; simp)
        go_wp2_with fail
        go_ret
        exact ⟨by rw [HVF.out]; rfl, HM.out⟩
      by_cases hg32 : 32 < gid.size
      · have HVF : Hid (q = false) := Lib.hid (by rw [HQ.out]; rw [HGO.out, decide_eq_false (show ¬ gid.size ≤ 32 by omega)]; simp)
        go_wp2_with fail
        go_ret
        exact ⟨by rw [HVF.out]; rfl, HM.out⟩
      by_cases hd6 : 65536 < n
      · have HVF : Hid (q = false) := Lib.hid (by rw [HQ.out]; rw [decide_eq_false (show ¬ n ≤ 65536 by omega)]; simp)
        go_wp2_with fail
        go_ret
        exact ⟨by rw [HVF.out]; rfl, HM.out⟩
      have HVT : Hid (q = true) := Lib.hid (by rw [HQ.out, HPT.out, HGO.out]; simp [hbr, hmt, decide_eq_true (show gid.size ≤ 32 by omega), decide_eq_true (show n ≤ 65536 by omega), decide_eq_true (show cp.size ≤ 65535 by omega)]; try omega)
      go_wp2_with fail
      go_ret
      exact ⟨by rw [HVT.out]; rfl, HM.out⟩
    · by_cases h1 : mode / 1073741824 % 2 = 1
      · have HTT : tw = true := by rw [HTW.out]; exact decide_eq_true (Or.inl h1)
        have hi1 : ((mode : Int) / 1073741824 % 2 == 1) = true := by simp; omega
        have HVF : Hid (q = false) := Lib.hid (by rw [HQ.out]; rw [HTT]; simp)
        go_wp2_with fail
        go_ret
        exact ⟨by rw [HVF.out]; rfl, HM.out⟩
      have hi1 : ((mode : Int) / 1073741824 % 2 == 1) = false := by simp; omega
      by_cases h2 : mode / 536870912 % 2 = 1
      · have HTT : tw = true := by rw [HTW.out]; exact decide_eq_true (Or.inr h2)
        have hi2 : ((mode : Int) / 536870912 % 2 == 1) = true := by simp; omega
        have HVF : Hid (q = false) := Lib.hid (by rw [HQ.out]; rw [HTT]; simp)
        go_wp2_with fail
        go_ret
        exact ⟨by rw [HVF.out]; rfl, HM.out⟩
      have hi2 : ((mode : Int) / 536870912 % 2 == 1) = false := by simp; omega
      have HTF : tw = false := by rw [HTW.out]; exact decide_eq_false (by omega)
      by_cases hmt : mtime = 4294967295
      · subst hmt
        have HVF : Hid (q = false) := Lib.hid (by rw [HQ.out]; simp)
        go_wp2_with fail
        go_ret
        exact ⟨by rw [HVF.out]; rfl, HM.out⟩
      have hmt2 : ((mtime : Int) == 4294967295) = false := by simp; omega
      cases gd
      · have HVF : Hid (q = false) := Lib.hid (by rw [HQ.out]; rw [HGO.out]; simp)
        go_wp2_with fail
        go_ret
        exact ⟨by rw [HVF.out]; rfl, HM.out⟩
      by_cases hg32 : 32 < gid.size
      · have HVF : Hid (q = false) := Lib.hid (by rw [HQ.out]; rw [HGO.out, decide_eq_false (show ¬ gid.size ≤ 32 by omega)]; simp)
        go_wp2_with fail
        go_ret
        exact ⟨by rw [HVF.out]; rfl, HM.out⟩
      by_cases hd6 : 65536 < n
      · have HVF : Hid (q = false) := Lib.hid (by rw [HQ.out]; rw [decide_eq_false (show ¬ n ≤ 65536 by omega)]; simp)
        go_wp2_with fail
        go_ret
        exact ⟨by rw [HVF.out]; rfl, HM.out⟩
      by_cases hn0 : n = 0
      · subst hn0
        have HVT : Hid (q = true) := Lib.hid (by rw [HQ.out, HPT.out, HGO.out]; simp [hbr, hmt, HTF, decide_eq_true (show gid.size ≤ 32 by omega), decide_eq_true (show cp.size ≤ 65535 by omega)]; try omega)
        go_wp2_with fail
        go_ret
        exact ⟨by rw [HVT.out]; rfl, HM.out⟩
      · have hn1 : (((n : Int) == 0) = false) := by simp; exact hn0
        have HVF : Hid (q = false) := Lib.hid (by rw [HQ.out]; simp [hn0]; try omega)
        go_wp2_with fail
        go_ret
        exact ⟨by rw [HVF.out]; rfl, HM.out⟩
  | cons p0 K =>
    obtain ⟨g, rfl⟩ : ∃ g, B = some ⟨g, 0, none⟩ := by
      rcases ownsRow_form HRK.out with ⟨e, h1, _⟩ | ⟨g, cap, e, _⟩
      · simp at h1
      · cases e; exact ⟨g, rfl⟩
    have hp0 : w4.cell? ⟨g, 0, none⟩ = some (.string p0) := by
      have := HRK.out.cells (g := g) rfl 0 (.string p0) rfl
      rw [Addr.add_lit] at this
      simpa using this
    have hKl : ∃ m, (p0 :: K).length = m + 1 := ⟨K.length, rfl⟩
    obtain ⟨m, hm1⟩ := hKl
    have hKb : m + 1 ≤ 4294967290 := by have := HKB.out; rw [hm1] at this; exact this
    rw [hm1] at *
    cases e2 : p0.toList == [46, 46]
    rotate_left
    · have HPT : Hid (pq = false) := Lib.hid (by rw [HPQ.out]; show (!(p0.toList == [46, 46])) = false; rw [e2]; rfl)
      have HVF : Hid (q = false) := Lib.hid (by rw [HQ.out]; rw [HPT.out]; rfl)
      go_wp2_with fail
      go_ret
      exact ⟨by rw [HVF.out]; rfl, HM.out⟩
    have HPT : Hid (pq = true) := Lib.hid (by rw [HPQ.out]; show (!(p0.toList == [46, 46])) = true; rw [e2]; rfl)
    go_wp2_with fail
    refine (H4.out _).mono ?_
    rintro x w6 ⟨rfl, hm⟩
    have hbx := hm.heap HBX3.out (by simp)
    have c0 := cell_of_row _ _ 0 _ _ _ hbx
    have c1 := cell_of_row _ _ 1 _ _ _ hbx
    have c2 := cell_of_row _ _ 2 _ _ _ hbx
    have c3 := cell_of_row _ _ 3 _ _ _ hbx
    have c4 := cell_of_row _ _ 4 _ _ _ hbx
    simp only [List.getElem?_toArray, List.getElem?_cons_zero, List.getElem?_cons_succ] at c0 c1 c2 c3 c4
    have HBX6 := Lib.hid hbx
    have HM6 := Lib.hid (HM.out.trans hm (by simp))
    clear hm hbx HBX3 HM H4
    go_wp2_with fail
    refine (H5.out _).mono ?_
    rintro x w7 ⟨rfl, hm⟩
    have hbx := hm.heap HBX6.out (by simp)
    have c0 := cell_of_row _ _ 0 _ _ _ hbx
    have c1 := cell_of_row _ _ 1 _ _ _ hbx
    have c2 := cell_of_row _ _ 2 _ _ _ hbx
    have c3 := cell_of_row _ _ 3 _ _ _ hbx
    have c4 := cell_of_row _ _ 4 _ _ _ hbx
    simp only [List.getElem?_toArray, List.getElem?_cons_zero, List.getElem?_cons_succ] at c0 c1 c2 c3 c4
    have HM := Lib.hid (HM6.out.trans hm (by simp))
    clear hm hbx HBX6 HM6 H5
    by_cases hbr : br < 512
    rotate_left
    · have hbr2 : decide (br < 512) = false := decide_eq_false hbr
      have HVF : Hid (q = false) := Lib.hid (by rw [HQ.out]; rw [hbr2]; simp)
      go_wp2_with fail
      go_ret
      exact ⟨by rw [HVF.out]; rfl, HM.out⟩
    have hbr2 : decide (br < 512) = true := decide_eq_true hbr
    cases di
    · by_cases hmt : mtime = 4294967295
      · subst hmt
        have HVF : Hid (q = false) := Lib.hid (by rw [HQ.out]; simp)
        go_wp2_with fail
        go_ret
        exact ⟨by rw [HVF.out]; rfl, HM.out⟩
      have hmt2 : ((mtime : Int) == 4294967295) = false := by simp; omega
      cases gd
      · have HVF : Hid (q = false) := Lib.hid (by rw [HQ.out]; rw [HGO.out]; simp)
        go_wp2_with fail
        go_ret
        exact ⟨by rw [HVF.out]; rfl, HM.out⟩
      by_cases hg32 : 32 < gid.size
      · have HVF : Hid (q = false) := Lib.hid (by rw [HQ.out]; rw [HGO.out, decide_eq_false (show ¬ gid.size ≤ 32 by omega)]; simp)
        go_wp2_with fail
        go_ret
        exact ⟨by rw [HVF.out]; rfl, HM.out⟩
      by_cases hd6 : 65536 < n
      · have HVF : Hid (q = false) := Lib.hid (by rw [HQ.out]; rw [decide_eq_false (show ¬ n ≤ 65536 by omega)]; simp)
        go_wp2_with fail
        go_ret
        exact ⟨by rw [HVF.out]; rfl, HM.out⟩
      have HVT : Hid (q = true) := Lib.hid (by rw [HQ.out, HPT.out, HGO.out]; simp [hbr, hmt, decide_eq_true (show gid.size ≤ 32 by omega), decide_eq_true (show n ≤ 65536 by omega), decide_eq_true (show cp.size ≤ 65535 by omega)]; try omega)
      go_wp2_with fail
      go_ret
      exact ⟨by rw [HVT.out]; rfl, HM.out⟩
    · by_cases h1 : mode / 1073741824 % 2 = 1
      · have HTT : tw = true := by rw [HTW.out]; exact decide_eq_true (Or.inl h1)
        have hi1 : ((mode : Int) / 1073741824 % 2 == 1) = true := by simp; omega
        have HVF : Hid (q = false) := Lib.hid (by rw [HQ.out]; rw [HTT]; simp)
        go_wp2_with fail
        go_ret
        exact ⟨by rw [HVF.out]; rfl, HM.out⟩
      have hi1 : ((mode : Int) / 1073741824 % 2 == 1) = false := by simp; omega
      by_cases h2 : mode / 536870912 % 2 = 1
      · have HTT : tw = true := by rw [HTW.out]; exact decide_eq_true (Or.inr h2)
        have hi2 : ((mode : Int) / 536870912 % 2 == 1) = true := by simp; omega
        have HVF : Hid (q = false) := Lib.hid (by rw [HQ.out]; rw [HTT]; simp)
        go_wp2_with fail
        go_ret
        exact ⟨by rw [HVF.out]; rfl, HM.out⟩
      have hi2 : ((mode : Int) / 536870912 % 2 == 1) = false := by simp; omega
      have HTF : tw = false := by rw [HTW.out]; exact decide_eq_false (by omega)
      by_cases hmt : mtime = 4294967295
      · subst hmt
        have HVF : Hid (q = false) := Lib.hid (by rw [HQ.out]; simp)
        go_wp2_with fail
        go_ret
        exact ⟨by rw [HVF.out]; rfl, HM.out⟩
      have hmt2 : ((mtime : Int) == 4294967295) = false := by simp; omega
      cases gd
      · have HVF : Hid (q = false) := Lib.hid (by rw [HQ.out]; rw [HGO.out]; simp)
        go_wp2_with fail
        go_ret
        exact ⟨by rw [HVF.out]; rfl, HM.out⟩
      by_cases hg32 : 32 < gid.size
      · have HVF : Hid (q = false) := Lib.hid (by rw [HQ.out]; rw [HGO.out, decide_eq_false (show ¬ gid.size ≤ 32 by omega)]; simp)
        go_wp2_with fail
        go_ret
        exact ⟨by rw [HVF.out]; rfl, HM.out⟩
      by_cases hd6 : 65536 < n
      · have HVF : Hid (q = false) := Lib.hid (by rw [HQ.out]; rw [decide_eq_false (show ¬ n ≤ 65536 by omega)]; simp)
        go_wp2_with fail
        go_ret
        exact ⟨by rw [HVF.out]; rfl, HM.out⟩
      by_cases hn0 : n = 0
      · subst hn0
        have HVT : Hid (q = true) := Lib.hid (by rw [HQ.out, HPT.out, HGO.out]; simp [hbr, hmt, HTF, decide_eq_true (show gid.size ≤ 32 by omega), decide_eq_true (show cp.size ≤ 65535 by omega)]; try omega)
        go_wp2_with fail
        go_ret
        exact ⟨by rw [HVT.out]; rfl, HM.out⟩
      · have hn1 : (((n : Int) == 0) = false) := by simp; exact hn0
        have HVF : Hid (q = false) := Lib.hid (by rw [HQ.out]; simp [hn0]; try omega)
        go_wp2_with fail
        go_ret
        exact ⟨by rw [HVF.out]; rfl, HM.out⟩
end Go.Proofs.YtmcekhgmmocajaaGreatDoor
namespace Go.Proofs.YtmcekhgmmocajaaGreatDoor
open Go.RowKit Me

/-- The path of the directory that a path lies in. -/
def aboveB (p : List ByteArray) : ByteArray := joinP false p.dropLast
set_option maxRecDepth 100000 in
set_option maxHeartbeats 1000000 in
theorem above_any (s : ByteArray) (w : World) (hs : s.size ≤ 200000000) (hne : partsR s ≠ []) :
    Calls Tryz.prog 68 #[.string s] w fun x w' => x = .returned (.string (aboveB (partsR s))) ∧ Mods [] w w' := by
  have H1 := Lib.hid (rparts_any s w (by omega))
  have hsub : (partsR s).Sublist (pieces s) := by
    unfold partsR
    split
    · exact List.filter_sublist
    · exact List.nil_sublist _
  have hll : (partsR s).length ≤ 4294967290 := by
    have h1 := hsub.length_le
    have h2 := pieces_length s
    have h3 := Lib.countB_le ⟨#[47]⟩ (by decide) _ s (Nat.le_refl _)
    omega
  have hj : lenJ (partsR s).dropLast ≤ 100000000000 := by
    have h1 := lenJ_sub ((List.dropLast_sublist (partsR s)).trans hsub)
    rw [lenJ_pieces] at h1
    omega
  have HA := Lib.hid (show aboveB (partsR s) = joinP false (partsR s).dropLast from rfl)
  generalize partsR s = L at *
  obtain ⟨m, hm⟩ : ∃ m, L.length = m + 1 := ⟨L.length - 1, by have : L.length ≠ 0 := fun h => hne (List.eq_nil_of_length_eq_zero h); omega⟩
  have HDL : Hid (L.take m = L.dropLast) := Lib.hid (by rw [List.dropLast_eq_take, hm]; rfl)
  go_enter Tryz.func68, Tryz.ntmps68
  go_wp2_with fail
  refine H1.out.mono ?_; rintro x w1 ⟨v, rfl, hr, hm1⟩
  obtain ⟨A, c, rfl, -⟩ := id hr
  rw [List.length_map] at hr ⊢
  have hcap := rd_cap hr
  have hin := rd_init hr m (by omega)
  rw [HDL.out] at hin
  have HJ := Lib.hid (rjoin_any false L.dropLast (.slice A m c) w1 hin (by rw [List.length_dropLast]; omega) hj)
  have HM := Lib.hid hm1
  have hm9 : m + 1 ≤ 4294967290 := by omega
  rw [hm] at *
  clear hr hm1 hin hsub H1 hne hj
  generalize joinP false L.dropLast = res at *
  clear hm
  go_wp2_with fail
  refine HJ.out.mono ?_; rintro x w2 ⟨rfl, hm2⟩
  have HM2 := Lib.hid (HM.out.trans hm2 (by simp))
  clear hm2
  go_wp2_with fail
  go_ret
  exact ⟨by rw [HA.out]; rfl, HM2.out⟩
end Go.Proofs.YtmcekhgmmocajaaGreatDoor
namespace Go.Proofs.YtmcekhgmmocajaaGreatDoor
open Go.RowKit Me

/-- The place of the first entry of this path. -/
def findE (l : List EntP) (s : ByteArray) : Int :=
  match l.findIdx? (fun e => e.path.toList == s.toList) with
  | some i => (i : Int)
  | none => -1
theorem Ents.take {w : World} {A : Option Addr} {n c : Nat} {L : List EntP} (h : Ents w (.slice A n c) L) (k : Nat) (hk : k ≤ L.length) : Ents w (.slice A k c) (L.take k) := by
  obtain ⟨A', c', e, h1, h2, h3⟩ := h
  obtain ⟨rfl, rfl, rfl⟩ := Value.slice.inj e
  refine ⟨A, c, by rw [List.length_take, Nat.min_eq_left hk], by rw [List.length_take]; omega, h2, fun i e he => ?_⟩
  rw [List.getElem?_take] at he
  split at he
  · exact h3 i e he
  · cases he
def RelFi (w : World) (L : List EntP) (s : ByteArray) (i : Value) (wr : World) : Prop := ∃ k : Nat, k ≤ L.length ∧ i = .int .i64 k ∧ (L.take k).findIdx? (fun e => e.path.toList == s.toList) = none ∧ Mods [] w wr
set_option maxRecDepth 100000 in
set_option maxHeartbeats 1000000 in
theorem find_any {w : World} (L : List EntP) (s : ByteArray) {v : Value} (h : Ents w v L) (hL : L.length ≤ 100000000) :
    Calls Tryz.prog 67 #[v, .string s] w fun x w' => x = .returned (.int .i64 (findE L s)) ∧ Mods [] w w' := by
  have H := Lib.hid h
  obtain ⟨A, c, rfl, -⟩ := h
  have HF := Lib.hid (show findE L s = match L.findIdx? (fun e => e.path.toList == s.toList) with
    | some i => (i : Int)
    | none => -1 from rfl)
  generalize findE L s = r at *
  go_enter Tryz.func67, Tryz.ntmps67
  go_wp2_with fail
  go_loopw [5] (fun i wr => RelFi w L s i wr) (fun i _ => L.length - (intOf i).toNat)
  case atStart => exact ⟨0, by omega, rfl, by simp, Mods.refl _ _⟩
  case round =>
    obtain ⟨k, hk, rfl, hn, hm⟩ := hrel
    have HM := Lib.hid hm
    rcases Nat.lt_or_ge k L.length with hlt | hge
    · obtain ⟨e, hs⟩ : ∃ e, L[k]? = some e := ⟨_, List.getElem?_eq_getElem hlt⟩
      obtain ⟨g, off, vd, rfl, hrg, hrd⟩ := (H.out.mods hm).at hs
      have c0 := (range_ent hrg).1
      have hsplit : L = L.take k ++ e :: L.drop (k + 1) := by
        obtain ⟨h1, rfl⟩ := List.getElem?_eq_some_iff.1 hs
        rw [← List.drop_eq_getElem_cons h1, List.take_append_drop]
      cases hq : e.path.toList == s.toList
      · have HN : Hid ((L.take (k + 1)).findIdx? (fun e => e.path.toList == s.toList) = none) := Lib.hid (by
          rw [List.take_add_one, hs]
          rw [List.findIdx?_append, hn]
          simp [List.findIdx?_cons, hq])
        clear hrg hrd hs hm hn hsplit
        go_wp2_with fail
        exact ⟨⟨k + 1, by omega, rfl, HN.out, HM.out⟩, by simp only [intOf]; omega⟩
      · have HV : Hid (r = (k : Int)) := Lib.hid (by
          rw [HF.out]
          have : L.findIdx? (fun e => e.path.toList == s.toList) = some k := by
            rw [hsplit, List.findIdx?_append, hn]
            simp [List.findIdx?_cons, hq, Nat.min_eq_left hk]
          rw [this])
        clear hrg hrd hs hm hn hsplit
        go_wp2_with fail
        go_ret
        exact ⟨by rw [HV.out]; rfl, HM.out⟩
    · obtain rfl : k = L.length := by omega
      have HV : Hid (r = -1) := Lib.hid (by
        rw [List.take_length] at hn
        rw [HF.out, hn])
      clear hm hn
      go_wp2_with fail
      go_ret
      exact ⟨by rw [HV.out]; rfl, HM.out⟩
end Go.Proofs.YtmcekhgmmocajaaGreatDoor
namespace Go.Proofs.YtmcekhgmmocajaaGreatDoor
open Go.RowKit Me Go.BigFrame

/-- Does the first entry of this path stand for a directory? -/
def dirAt (l : List EntP) (s : ByteArray) : Bool := match l.findIdx? (fun e => e.path.toList == s.toList) with
  | some i => (match l[i]? with | some d => isDirN d.mode | none => false)
  | none => false
def ordRAt (L : List EntP) (k : Nat) : Bool := match L[k]?, L[k + 1]? with
  | some x, some e => decide (cmpL (partsR x.path) (partsR e.path) < 0) && dirAt (L.take (k + 1)) (aboveB (partsR e.path))
  | _, _ => false
def ordRTo (L : List EntP) (k : Nat) : Bool := (List.range k).all (ordRAt L)
def ordR (L : List EntP) : Bool := (match L[0]? with | some e => e.path.toList == [46] | none => false) && ordRTo L (L.length - 1)
theorem ordRTo_snoc (L : List EntP) (k : Nat) : ordRTo L (k + 1) = (ordRTo L k && ordRAt L k) := by
  unfold ordRTo
  rw [List.range_succ, List.all_append]
  simp
theorem ordRTo_false (L : List EntP) (k : Nat) (h : ordRTo L k = false) (hk : k ≤ L.length - 1) : ordRTo L (L.length - 1) = false := by
  unfold ordRTo at h ⊢
  rw [List.all_eq_false] at h ⊢
  obtain ⟨x, hx, h2⟩ := h
  exact ⟨x, by rw [List.mem_range] at hx ⊢; omega, h2⟩
theorem cmpL_nil : ∀ l : List ByteArray, ¬ cmpL l [] < 0
  | [] => by decide
  | a :: l => by unfold cmpL; decide
def RelRo (w : World) (L : List EntP) (i : Value) (wr : World) : Prop := ∃ k : Nat, k + 1 ≤ L.length ∧ i = .int .i64 ((k : Int) + 1) ∧ ordRTo L k = true ∧ Mods [] w wr
set_option maxRecDepth 100000 in
set_option maxHeartbeats 2000000 in
theorem rorder_any {w : World} (L : List EntP) {v : Value} (h : Ents w v L) (hz : ∀ e ∈ L, Small e) (hL : L.length ≤ 100000000) (hne : L ≠ []) :
    Calls Tryz.prog 34 #[v] w fun x w' => x = .returned (.bool (ordR L)) ∧ Mods [] w w' := by
  have H := Lib.hid h
  have HZ := Lib.hid hz
  obtain ⟨A, c, rfl, hcap, -⟩ := h
  have h0 : 0 < L.length := List.length_pos_iff.2 hne
  obtain ⟨e0, he0⟩ : ∃ e, L[0]? = some e := ⟨_, List.getElem?_eq_getElem h0⟩
  obtain ⟨g, off, vd0, rfl, hrg0, -⟩ := H.out.at he0
  have c0 := (range_ent hrg0).1
  simp only [Nat.zero_mul, Nat.add_zero] at c0
  have HR : Hid (ordR L = ((e0.path.toList == [46]) && ordRTo L (L.length - 1))) := Lib.hid (by unfold ordR; rw [he0])
  clear hz hne he0 hrg0
  generalize ordR L = r at *
  go_enter Tryz.func34, Tryz.ntmps34
  cases hq : e0.path.toList == [46]
  · have HV : Hid (r = false) := Lib.hid (by rw [HR.out, hq]; rfl)
    go_wp2_with fail
    go_ret
    exact ⟨by rw [HV.out]; rfl, Mods.refl _ _⟩
  · have HV : Hid (r = ordRTo L (L.length - 1)) := Lib.hid (by rw [HR.out, hq]; rfl)
    go_wp2_with fail
    clear c0 hq
    go_loopw [3] (fun i wr => RelRo w L i wr) (fun i _ => L.length - (intOf i).toNat)
    case atStart => exact ⟨0, by omega, rfl, rfl, Mods.refl _ _⟩
    case round =>
      obtain ⟨k, hk, rfl, ho, hm⟩ := hrel
      have HM := Lib.hid hm
      have HO := Lib.hid ho
      clear hm ho
      rcases Nat.lt_or_ge (k + 1) L.length with hlt | hge
      · obtain ⟨e, hs⟩ : ∃ e, L[k + 1]? = some e := ⟨_, List.getElem?_eq_getElem hlt⟩
        obtain ⟨x, hx⟩ : ∃ x, L[k]? = some x := ⟨_, List.getElem?_eq_getElem (by omega)⟩
        have hse := HZ.out e (List.mem_of_getElem? hs)
        have hsx := HZ.out x (List.mem_of_getElem? hx)
        have HSN : Hid (ordRTo L (k + 1) = (decide (cmpL (partsR x.path) (partsR e.path) < 0) && dirAt (L.take (k + 1)) (aboveB (partsR e.path)))) := Lib.hid (by
          rw [ordRTo_snoc, HO.out]
          unfold ordRAt
          rw [hx, hs]
          rfl)
        have HE : Hid (∀ w', InC wr w' → w'.cell? ⟨g, off + (k + 1) * 5, none⟩ = some (.string e.path)) := Lib.hid (fun w' hw => by
          obtain ⟨g', off', vd', e', hr', _⟩ := (H.out.mods (HM.out.trans hw (by simp))).at hs
          cases e'
          exact (range_ent hr').1)
        have HX : Hid (∀ w', InC wr w' → w'.cell? ⟨g, off + k * 5, none⟩ = some (.string x.path)) := Lib.hid (fun w' hw => by
          obtain ⟨g', off', vd', e', hr', _⟩ := (H.out.mods (HM.out.trans hw (by simp))).at hx
          cases e'
          exact (range_ent hr').1)
        have HAH := Lib.hid (fun w' (hw : InC wr w') => (ahead_any x.path e.path w' (by have := hsx.path; omega) (by have := hse.path; omega)).mono fun _ _ hh => (⟨hh.1, Mods.trans hw hh.2 (by simp)⟩ : _ ∧ InC wr _))
        clear hs hx
        go_wp2_with fail
        refine wp_region_quiet (C := InC wr) (by kernel_rfl) (by kernel_rfl) (InC.drew wr) ?_
        dsimp only [List.toList_toArray]
        repeat (first | go_big_quiet_skip | (go_big_quiet_want; go_big_quiet_op; first | go_big_quiet_on | (apply Exists.intro; refine ⟨fun w' hw' => ?_, ?_⟩; (first | rfl | (rw [HE.out w' hw']; exact ⟨rfl, rfl⟩) | (rw [HX.out w' hw']; exact ⟨rfl, rfl⟩)); go_big_quiet_on)))
        refine wpQuiet_step (fun K hK => ?_)
        go_simp
        refine ⟨_, fun w' hw' => HAH.out w' hw', hK _ ?_⟩
        clear hK K
        refine wpQuiet_step (fun K hK => ?_)
        go_simp
        refine ⟨_, fun _ _ => rfl, hK _ ?_⟩
        clear hK K
        refine wpQuiet_nil ?_
        intro w5 hw5
        have HM5 := Lib.hid (HM.out.trans hw5 (by simp))
        have HX5 := Lib.hid (fun w' (hw : InC w5 w') => HX.out w' (Mods.trans hw5 hw (by simp)))
        have HE5 := Lib.hid (fun w' (hw : InC w5 w') => HE.out w' (Mods.trans hw5 hw (by simp)))
        clear HX HE hw5 HAH
        by_cases hc : cmpL (partsR x.path) (partsR e.path) < 0
        · have hpne : partsR e.path ≠ [] := fun h => cmpL_nil _ (by rw [h] at hc; exact hc)
          rw [decide_eq_true hc]
          rw [decide_eq_true hc] at HSN
          clear hc
          have HAB := Lib.hid (fun w' (hw : InC w5 w') => (above_any e.path w' (by have := hse.path; omega) hpne).mono fun _ _ hh => (⟨hh.1, Mods.trans hw hh.2 (by simp)⟩ : _ ∧ InC w5 _))
          have HFI := Lib.hid (fun w' (hw : InC w5 w') => (find_any (L.take (k + 1)) (aboveB (partsR e.path)) (((H.out.mods HM5.out).mods hw).take (k + 1) (by omega)) (by rw [List.length_take]; omega)).mono fun _ _ hh => (⟨hh.1, Mods.trans hw hh.2 (by simp)⟩ : _ ∧ InC w5 _))
          have HDA : Hid (match (L.take (k + 1)).findIdx? (fun e' => e'.path.toList == (aboveB (partsR e.path)).toList) with
            | some i => ∃ d, i < k + 1 ∧ L[i]? = some d ∧ findE (L.take (k + 1)) (aboveB (partsR e.path)) = (i : Int) ∧ ordRTo L (k + 1) = isDirN d.mode
            | none => findE (L.take (k + 1)) (aboveB (partsR e.path)) = -1 ∧ ordRTo L (k + 1) = false) := Lib.hid (by
            rw [HSN.out]
            unfold findE dirAt
            cases hf : (L.take (k + 1)).findIdx? (fun e' => e'.path.toList == (aboveB (partsR e.path)).toList) with
            | none => exact ⟨rfl, rfl⟩
            | some i =>
              have hi : i < (L.take (k + 1)).length := (List.findIdx?_eq_some_iff_findIdx_eq.1 hf).1
              rw [List.length_take] at hi
              refine ⟨L[i], by omega, List.getElem?_eq_getElem (by omega), rfl, ?_⟩
              have h3 : (L.take (k + 1))[i]? = some (L[i]'(by omega)) := by rw [List.getElem?_take, if_pos (by omega), List.getElem?_eq_getElem (by omega)]
              show (true && (match (L.take (k + 1))[i]? with | some d => isDirN d.mode | none => false)) = _
              rw [h3]
              rfl)
          clear HSN
          generalize findE (L.take (k + 1)) (aboveB (partsR e.path)) = fi at *
          generalize aboveB (partsR e.path) = ab at *
          clear hpne
          go_wp2_with fail
          refine wp_region_quiet (C := InC w5) (by kernel_rfl) (by kernel_rfl) (InC.drew w5) ?_
          dsimp only [List.toList_toArray]
          repeat (first | go_big_quiet_skip | (go_big_quiet_want; go_big_quiet_op; first | go_big_quiet_on | (apply Exists.intro; refine ⟨fun w' hw' => ?_, ?_⟩; (first | rfl | (rw [HE5.out w' hw']; exact ⟨rfl, rfl⟩) | (rw [HX5.out w' hw']; exact ⟨rfl, rfl⟩)); go_big_quiet_on)))
          refine wpQuiet_step (fun K hK => ?_)
          go_simp
          refine ⟨_, fun w' hw' => HAB.out w' hw', hK _ ?_⟩
          clear hK K
          refine wpQuiet_step (fun K hK => ?_)
          go_simp
          refine ⟨_, fun w' hw' => HFI.out w' hw', hK _ ?_⟩
          clear hK K
          refine wpQuiet_step (fun K hK => ?_)
          go_simp
          refine ⟨_, fun _ _ => rfl, hK _ ?_⟩
          clear hK K
          refine wpQuiet_nil ?_
          intro w6 hw6
          have HM6 := Lib.hid (HM5.out.trans hw6 (by simp))
          clear HX5 HE5 hw6 HAB HFI
          have HDO := HDA.out
          revert HDO
          cases (L.take (k + 1)).findIdx? (fun e' => e'.path.toList == ab.toList) with
          | none =>
            rintro ⟨rfl, hno⟩
            have HNO := Lib.hid (ordRTo_false L (k + 1) hno (by omega))
            clear HDA hno
            go_wp2_with fail
            go_ret
            exact ⟨by rw [HV.out, HNO.out]; rfl, HM6.out⟩
          | some i =>
            rintro ⟨d, hi, hd, rfl, hord⟩
            have HORD := Lib.hid hord
            obtain ⟨g', off', vd', e', hr', -⟩ := (H.out.mods HM6.out).at hd
            cases e'
            have c0 := (range_ent hr').2.1
            have hi2 : i < L.length := by omega
            have HDI := Lib.hid (fun w' => dir_any d.mode w')
            clear HDA hord hd hr'
            go_wp2_with fail
            refine (HDI.out _).mono ?_
            rintro x' w7 ⟨rfl, hm7⟩
            have HM7 := Lib.hid (HM6.out.trans hm7 (by simp))
            clear hm7 c0 HDI
            cases hdd : isDirN d.mode
            · have HNO := Lib.hid (ordRTo_false L (k + 1) (by rw [HORD.out, hdd]) (by omega))
              clear hdd
              go_wp2_with fail
              go_ret
              exact ⟨by rw [HV.out, HNO.out]; rfl, HM7.out⟩
            · have HYE := Lib.hid (HORD.out.trans hdd)
              clear hdd
              go_wp2_with fail
              exact ⟨⟨k + 1, by omega, rfl, HYE.out, HM7.out⟩, by simp only [intOf]; omega⟩
        · have HNO := Lib.hid (ordRTo_false L (k + 1) (by rw [HSN.out, decide_eq_false hc]; rfl) (by omega))
          rw [decide_eq_false hc]
          clear hc HSN
          go_wp2_with fail
          go_ret
          exact ⟨by rw [HV.out, HNO.out]; rfl, HM5.out⟩
      · have HN : Hid (r = true) := Lib.hid (by rw [HV.out, show L.length - 1 = k by omega]; exact HO.out)
        go_wp2_with fail
        go_ret
        exact ⟨by rw [HN.out]; rfl, HM.out⟩
end Go.Proofs.YtmcekhgmmocajaaGreatDoor
