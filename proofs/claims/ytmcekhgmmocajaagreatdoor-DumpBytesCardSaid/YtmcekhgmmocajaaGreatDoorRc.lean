/- The reference's Check. | The reference's Split. | The reference's Reduced. -/
import Derived.Test.YtmcekhgmmocajaaGreatDoorNp
import Derived.Test.YtmcekhgmmocajaaGreatDoorCg
import Derived.Test.YtmcekhgmmocajaaGreatDoorNl
import Derived.Deep.RegionLaw
namespace Go.Proofs.YtmcekhgmmocajaaGreatDoor
open Go.RowKit Me

theorem slash_iff (l : List UInt8) : decide (0 ≤ Lib.indexByte l 47) = decide ((47 : UInt8) ∈ l) := by
  rcases cut_index l with ⟨i, h1, h2, h3⟩ | ⟨h1, h2⟩
  · have : (47 : UInt8) ∈ l := List.mem_of_getElem? (indexByte_at l i h1)
    rw [h1]
    simp [this]
  · have : (47 : UInt8) ∉ l := cut_mem l l (by rw [h2]; simp)
    rw [h1]
    simp [this]
def RelCk (s : ByteArray) (w : World) (i : Value) (wr : World) : Prop := ∃ k : Nat, k ≤ s.size ∧ i = .int .i64 k ∧ (47 : UInt8) ∉ s.data.toList.take k ∧ w = wr
theorem byte_at (s : ByteArray) (k : Nat) (h : k < s.size) : s.data.toList[k]? = some s[k] := by
  rw [Array.getElem?_toList]
  exact Array.getElem?_eq_getElem h
set_option maxRecDepth 100000 in
set_option maxHeartbeats 1000000 in
theorem rcheck_any (s : ByteArray) (w : World) (hs : s.size ≤ 1099511627776) :
    Calls Tryz.prog 99 #[.string s] w fun e w' => e = .returned (.int .i64 (if nameOk s then 0 else 50)) ∧ w = w' := by
  have H := Lib.hid (rgood_any s w hs)
  have HQ := Lib.hid (show nameOk s = (!s.toList.isEmpty && !(s.toList == [46]) && !(s.toList == [46, 46]) && decide (s.size ≤ 255) && !decide (0 ≤ Lib.indexByte s.data.toList 47) && Tx.good s.data.toList) from rfl)
  have HI := Lib.hid (slash_iff s.data.toList)
  generalize nameOk s = v at *
  obtain ⟨r, hr⟩ : ∃ r : Int, (if v then 0 else 50) = r := ⟨_, rfl⟩
  have HRR := Lib.hid hr
  rw [hr]
  clear hr
  generalize decide (0 ≤ Lib.indexByte s.data.toList 47) = c at *
  generalize Tx.good s.data.toList = g at *
  go_enter Tryz.func99, Tryz.ntmps99
  go_wp2_with fail
  refine H.out.mono ?_
  rintro x w1 ⟨rfl, rfl⟩
  cases e1 : s.toList.isEmpty
  rotate_left
  · have HV : Hid (v = false) := Lib.hid (by rw [HQ.out, e1]; rfl)
    go_wp2_with fail
    go_ret
    exact ⟨by rw [← HRR.out, HV.out]; rfl, rfl⟩
  cases e2 : s.toList == [46]
  rotate_left
  · have HV : Hid (v = false) := Lib.hid (by rw [HQ.out, e2]; simp)
    go_wp2_with fail
    go_ret
    exact ⟨by rw [← HRR.out, HV.out]; rfl, rfl⟩
  cases e3 : s.toList == [46, 46]
  rotate_left
  · have HV : Hid (v = false) := Lib.hid (by rw [HQ.out, e3]; simp)
    go_wp2_with fail
    go_ret
    exact ⟨by rw [← HRR.out, HV.out]; rfl, rfl⟩
  cases g
  · have HV : Hid (v = false) := Lib.hid (by rw [HQ.out]; simp)
    go_wp2_with fail
    go_ret
    exact ⟨by rw [← HRR.out, HV.out]; rfl, rfl⟩
  by_cases h5 : 255 < s.size
  · have HV : Hid (v = false) := Lib.hid (by rw [HQ.out, decide_eq_false (show ¬ s.size ≤ 255 by omega)]; simp)
    go_wp2_with fail
    go_ret
    exact ⟨by rw [← HRR.out, HV.out]; rfl, rfl⟩
  have HV : Hid (v = !c) := Lib.hid (by rw [HQ.out, e1, e2, e3, decide_eq_true (show s.size ≤ 255 by omega)]; simp)
  clear HQ
  go_wp2_with fail
  go_loopw [4] (fun i wr => RelCk s w i wr) (fun i _ => s.size - (intOf i).toNat)
  case atStart => exact ⟨0, by omega, rfl, by simp, rfl⟩
  case round =>
    obtain ⟨k, hk, rfl, hno, rfl⟩ := hrel
    rcases Nat.lt_or_ge k s.size with hlt | hge
    · have hb := byte_at s k hlt
      by_cases h47 : s[k] = 47
      · have HC : Hid (c = true) := Lib.hid (by
          rw [HI.out]
          exact decide_eq_true (List.mem_of_getElem? (by rw [hb, h47])))
        have h47' : s[k].toNat = 47 := by rw [h47]; rfl
        generalize s[k].toNat = bk at *
        clear hno hb
        go_wp2_with fail
        go_ret
        exact ⟨by rw [← HRR.out, HV.out, HC.out]; rfl, rfl⟩
      · have h47' : ((s[k].toNat : Int) == 47) = false := by
          simp
          intro e
          exact h47 (UInt8.toNat_inj.1 (by simpa using (show s[k].toNat = 47 by omega)))
        have HN : Hid ((47 : UInt8) ∉ s.data.toList.take (k + 1)) := Lib.hid (by
          rw [List.take_add_one, hb]
          simp only [List.mem_append, Option.toList_some, List.mem_singleton, not_or]
          exact ⟨hno, fun e => h47 e.symm⟩)
        clear hno hb
        go_wp2_with fail
        exact ⟨⟨k + 1, by omega, rfl, HN.out, rfl⟩, by simp only [intOf]; omega⟩
    · obtain rfl : k = s.size := by omega
      have HC : Hid (c = false) := Lib.hid (by
        rw [HI.out]
        rw [List.take_of_length_le (by simp)] at hno
        exact decide_eq_false hno)
      clear hno
      go_wp2_with fail
      go_ret
      exact ⟨by rw [← HRR.out, HV.out, HC.out]; rfl, rfl⟩
end Go.Proofs.YtmcekhgmmocajaaGreatDoor
namespace Go.Proofs.YtmcekhgmmocajaaGreatDoor
open Go.RowKit Me

/-- Ahead of the byte at k, behind the slash ahead of f: so far the pieces are those of j. -/
def CutAt (s : ByteArray) (L : List ByteArray) (f k j : Nat) : Prop :=
  f ≤ k ∧ k ≤ s.size + 1 ∧ j ≤ L.length ∧ (k ≤ s.size → (47 : UInt8) ∉ (s.data.toList.drop f).take (k - f) ∧ L.drop j = (cut (s.data.toList.drop f)).map mkB) ∧ (k = s.size + 1 → j = L.length)
theorem CutAt.start (s : ByteArray) : CutAt s (pieces s) 0 0 0 :=
  ⟨Nat.le_refl _, by omega, Nat.zero_le _, fun _ => ⟨by simp, by simp [pieces_eq]⟩, fun h => by omega⟩
theorem CutAt.go {s : ByteArray} {L : List ByteArray} {f k j : Nat} (h : CutAt s L f k j) (hk : k < s.size) (hb : s[k] ≠ 47) : CutAt s L f (k + 1) j := by
  obtain ⟨h1, h2, h3, h4, h5⟩ := h
  obtain ⟨a1, a2⟩ := h4 (by omega)
  refine ⟨by omega, by omega, h3, fun _ => ⟨?_, a2⟩, fun h => by omega⟩
  rw [show k + 1 - f = (k - f) + 1 by omega, List.take_add_one]
  simp only [List.mem_append, not_or]
  refine ⟨a1, ?_⟩
  rw [List.getElem?_drop, show f + (k - f) = k by omega, byte_at s k hk]
  simpa using fun e => hb e.symm
theorem extract_mk (s : ByteArray) (f k : Nat) : s.extract f k = mkB ((s.data.toList.drop f).take (k - f)) := by
  apply data_inj
  rw [data_mkB, Lib.extract_data]
theorem CutAt.piece {s : ByteArray} {L : List ByteArray} {f k j : Nat} (h : CutAt s L f k j) (hk : k ≤ s.size) (hb : ∀ (h : k < s.size), s[k] = 47) : L[j]? = some (s.extract f k) ∧ CutAt s L (k + 1) (k + 1) (j + 1) := by
  obtain ⟨h1, h2, h3, h4, h5⟩ := h
  obtain ⟨a1, a2⟩ := h4 hk
  have hdl : (s.data.toList.drop f).length = s.size - f := by simp
  have hc : cut (s.data.toList.drop f) = (s.data.toList.drop f).take (k - f) :: (if k < s.size then cut (s.data.toList.drop (k + 1)) else []) := by
    by_cases hlt : k < s.size
    · rw [if_pos hlt]
      have hd : s.data.toList.drop f = (s.data.toList.drop f).take (k - f) ++ 47 :: s.data.toList.drop (k + 1) := by
        have h47 : s.data.toList[k]? = some 47 := by rw [byte_at s k hlt, hb hlt]
        have e1 : (s.data.toList.drop f).drop (k - f) = 47 :: s.data.toList.drop (k + 1) := by
          rw [List.drop_drop, show f + (k - f) = k by omega]
          obtain ⟨hh, e⟩ := List.getElem?_eq_some_iff.1 h47
          rw [List.drop_eq_getElem_cons hh, e]
        rw [← e1, List.take_append_drop]
      conv => lhs; rw [hd]
      exact cut_at _ _ a1
    · rw [if_neg hlt]
      rw [List.take_of_length_le (by rw [hdl]; omega)] at a1 ⊢
      exact cut_none _ a1
  rw [hc] at a2
  have hj : L[j]? = some (s.extract f k) := by
    have := congrArg (·[0]?) a2
    simp only [List.getElem?_drop, Nat.add_zero, List.map_cons, List.getElem?_cons_zero] at this
    rw [this, extract_mk]
  have hjl : j < L.length := (List.getElem?_eq_some_iff.1 hj).1
  have hdj : L.drop (j + 1) = (if k < s.size then cut (s.data.toList.drop (k + 1)) else []).map mkB := by
    have := congrArg (·.drop 1) a2
    simpa [List.drop_drop] using this
  refine ⟨hj, Nat.le_refl _, by omega, by omega, fun hh => ⟨by simp, ?_⟩, fun hh => ?_⟩
  · rw [hdj, if_pos (by omega)]
  · rw [if_neg (by omega)] at hdj
    have := congrArg List.length hdj
    simp at this
    omega
theorem rooted_iff (s : ByteArray) : rootedB s = (!s.toList.isEmpty && decide (s.data.toList[0]? = some 47)) := by
  unfold rootedB Lib.hasPrefix
  rw [Lib.toList_data]
  cases s.data.toList with
  | nil => rfl
  | cons a l =>
    simp [List.isPrefixOf]
    by_cases h : a = 47
    · simp [h]
    · have h2 : ¬ 47 = a := fun e => h e.symm
      simp [h, h2]
def RelRs (s : ByteArray) (L : List ByteArray) (b2 : Nat) (r : Bool) (w1 : World) (fr i : Value) (wr : World) : Prop :=
  ∃ f k j : Nat, CutAt s L f k j ∧ fr = .int .i64 (f : Int) ∧ i = .int .i64 (k : Int) ∧ fit (L.take j) = true ∧ Mods [b2] w1 wr ∧
    ∃ v, wr.heap[b2]? = some (.cells #[.bool r, v] 103 (0, 0)) ∧ wr.ownsRow w1.heap.size 9 1 v (kept (L.take j)).length ((kept (L.take j)).map Value.string)
set_option maxRecDepth 100000 in
set_option maxHeartbeats 2000000 in
theorem rsplit_any (s : ByteArray) (w : World) (hs : s.size ≤ 4294967280) :
    Calls Tryz.prog 62 #[.string s] w fun e w' => ∃ v, e = .returned (.tuple #[.agg #[.bool (fit (pieces s) && rootedB s), v], .int .i64 (if fit (pieces s) then 0 else 51)]) ∧ Mods [] w w' ∧
      w'.ownsRow w.heap.size 9 1 v (if fit (pieces s) then (kept (pieces s)).length else 0) (if fit (pieces s) then (kept (pieces s)).map Value.string else []) := by
  obtain ⟨i0, hi, hz0, hz1, hz2⟩ := info_parts info9
  have HC0 := Lib.hid (CutAt.start s)
  have HRT := Lib.hid (rooted_iff s)
  have HLL : Hid ((pieces s).length ≤ 4294967290) := Lib.hid (by
    have hl := pieces_length s
    have hcb := Lib.countB_le ⟨#[47]⟩ (by decide) _ s (Nat.le_refl _)
    omega)
  generalize rootedB s = r at *
  generalize pieces s = L at *
  go_enter Tryz.func62, Tryz.ntmps62
  have hA := (((Mods.refl [] w).alloc (.cells #[.bool false, .slice none 0 0] 103)).alloc (.cells #[.bool false, .slice none 0 0] 103)).alloc (.cells #[.bool r, .slice none 0 0] 103)
  have HB0a : Hid ((((w.alloc (.cells #[.bool false, .slice none 0 0] 103)).alloc (.cells #[.bool false, .slice none 0 0] 103)).alloc (.cells #[.bool r, .slice none 0 0] 103)).heap[w.heap.size]? = some (.cells #[.bool false, .slice none 0 0] 103 (0, 0))) := Lib.hid (by
    show (((w.heap.push _).push _).push _)[_]? = _
    simp [Array.getElem?_push, Array.getElem_push]; try omega)
  have HB1a : Hid ((((w.alloc (.cells #[.bool false, .slice none 0 0] 103)).alloc (.cells #[.bool false, .slice none 0 0] 103)).alloc (.cells #[.bool r, .slice none 0 0] 103)).heap[w.heap.size + 1]? = some (.cells #[.bool false, .slice none 0 0] 103 (0, 0))) := Lib.hid (by
    show (((w.heap.push _).push _).push _)[_]? = _
    simp [Array.getElem_push])
  have HB2a : Hid ((((w.alloc (.cells #[.bool false, .slice none 0 0] 103)).alloc (.cells #[.bool false, .slice none 0 0] 103)).alloc (.cells #[.bool r, .slice none 0 0] 103)).heap[w.heap.size + 2]? = some (.cells #[.bool r, .slice none 0 0] 103 (0, 0))) := Lib.hid (by
    show (((w.heap.push _).push _).push _)[_]? = _
    simp [Array.getElem_push])
  have HWa := Lib.hid hA
  have hSa : (((w.alloc (.cells #[.bool false, .slice none 0 0] 103)).alloc (.cells #[.bool false, .slice none 0 0] 103)).alloc (.cells #[.bool r, .slice none 0 0] 103)).heap.size = w.heap.size + 3 := by simp
  have HSa := Lib.hid hSa
  clear hA hSa
  have hszs : s.toList.isEmpty = false → 0 < s.size := fun h => by
    rw [Lib.toList_data] at h
    rcases Nat.eq_zero_or_pos s.size with hz | hz
    · have : s.data.toList.length = 0 := by simpa using hz
      rw [List.eq_nil_of_length_eq_zero this] at h
      cases h
    · exact hz
  cases e0 : s.toList.isEmpty
  · have hpos := hszs e0
    have hrv : ((s[0].toNat : Int) == 47) = r := by
      rw [HRT.out, e0, byte_at s 0 hpos]
      by_cases h : s[0] = 47
      · rw [h]; rfl
      · have h2 : ((s[0].toNat : Int) == 47) = false := by
          simp
          intro e
          exact h (UInt8.toNat_inj.1 (by simpa using (show s[0].toNat = 47 by omega)))
        rw [h2]
        simp [h]
    clear hszs HRT
    go_wp2_with fail
    generalize hw1 : ((w.alloc (.cells #[.bool false, .slice none 0 0] 103)).alloc (.cells #[.bool false, .slice none 0 0] 103)).alloc (.cells #[.bool r, .slice none 0 0] 103) = w1 at *
    have HB0 := HB0a
    have HB1 := HB1a
    have HB2 := HB2a
    have HW := HWa
    have HS := HSa
    clear HB0a HB1a HB2a HWa HSa hw1
    generalize hbb : w.heap.size = b at *
    go_loopw [6, 7] (fun fr i wr => RelRs s L (b + 2) r w1 fr i wr) (fun _ i _ => s.size + 1 - (intOf i).toNat)
    case atStart => exact ⟨0, 0, 0, HC0.out, rfl, rfl, rfl, Mods.refl _ _, _, HB2.out, World.ownsRow_nil _ _ _ _⟩
    case round =>
      obtain ⟨f, k, j, hcut, rfl, rfl, hf, hm, v, hv, ho⟩ := hrel
      obtain ⟨A, c, rfl⟩ := own_ctor ho
      have HO := Lib.hid ho
      have HM := Lib.hid hm
      have HV := Lib.hid hv
      have HF := Lib.hid hf
      have HCU := Lib.hid hcut
      have c0 : wr.cell? ⟨b + 2, 0, none⟩ = some (.bool r) := by rw [cell_of_row _ _ _ _ _ _ hv]; rfl
      have c1 : wr.cell? ⟨b + 2, 1, none⟩ = some (.slice A (kept (L.take j)).length c) := by rw [cell_of_row _ _ _ _ _ _ hv]; rfl
      have HB0' := Lib.hid (hm.heap HB0.out (by simp))
      have HB1' := Lib.hid (hm.heap HB1.out (by simp))
      have hfk := hcut.1
      have hks := hcut.2.1
      clear ho hm hf hcut hv
      rcases Nat.lt_or_ge s.size k with hgt | hle
      · have hkl : j = L.length := HCU.out.2.2.2.2 (by omega)
        subst hkl
        have hfit : fit L = true := by have := HF.out; rwa [List.take_length] at this
        rw [List.take_length] at HO c1
        have d0 : wr.cell? ⟨b, 0, none⟩ = some (.bool false) := by rw [cell_of_row _ _ _ _ _ _ HB0'.out]; rfl
        have d1 : wr.cell? ⟨b, 1, none⟩ = some (.slice none 0 0) := by rw [cell_of_row _ _ _ _ _ _ HB0'.out]; rfl
        have k0 : wr.frozen? ⟨b, 0, none⟩ = false := frozen_of_row _ _ _ _ _ HB0'.out
        have k1 : wr.frozen? ⟨b, 1, none⟩ = false := frozen_of_row _ _ _ _ _ HB0'.out
        go_wp2_with fail
        all_goals first | (exfalso; simp_all; done) | skip
        refine bodyPost_ret (v := .tuple #[.agg #[.bool r, .slice A (kept L).length c], .int .i64 0]) (by simp [results, Tryz.results62, go_sem, d0, d1]) rfl ?_
        try rw [hfit]
        refine ⟨_, rfl, ((HW.out.trans HM.out (by intro x hx; simp at hx; right; omega)).setCell (Or.inr (by show w.heap.size ≤ b; omega)) _).setCell (Or.inr (by show w.heap.size ≤ b; omega)) _, ownsRow_set (ownsRow_set (ownsRow_base HO.out (by rw [HS.out]; omega)) ?_ _) ?_ _⟩
        · intro h; have := (HO.out.lt b h).1; have := HS.out; omega
        · intro h; have := (HO.out.lt b h).1; have := HS.out; omega
      · by_cases hgo : ∃ h : k < s.size, s[k] ≠ 47
        · obtain ⟨hlt, hne⟩ := hgo
          have hnb : ((s[k].toNat : Int) == 47) = false := by
            simp
            intro e
            exact hne (UInt8.toNat_inj.1 (by simpa using (show s[k].toNat = 47 by omega)))
          have HN := Lib.hid (HCU.out.go hlt hne)
          clear c0 c1
          go_wp2_with fail
          exact ⟨⟨f, k + 1, j, HN.out, rfl, rfl, HF.out, HM.out, _, HV.out, HO.out⟩, by simp only [intOf]; omega⟩
        · have hb47 : ∀ h : k < s.size, s[k] = 47 := fun h => by
            rcases Decidable.em (s[k] = 47) with e | e
            · exact e
            · exact absurd ⟨h, e⟩ hgo
          obtain ⟨hp, hnx⟩ := HCU.out.piece hle hb47
          have HNX := Lib.hid hnx
          have HCK := Lib.hid (rcheck_any (s.extract f k) wr (by rw [ByteArray.size_extract]; omega))
          have KS := Lib.hid (kept_step L j _ hp)
          have FS := Lib.hid (fit_step L j _ hp)
          have FN := Lib.hid (fit_not L (j + 1))
          have KL : Hid ((kept (L.take j)).length ≤ 4294967290) := Lib.hid (Nat.le_trans (List.length_filter_le _ _) (by rw [List.length_take]; have := HLL.out; omega))
          have hxl : (L[j]? = some (s.extract f k)) := hp
          clear hp hnx hxl
          rcases Nat.lt_or_ge k s.size with hlt | hge
          · have hbb : ((s[k].toNat : Int) == 47) = true := by rw [hb47 hlt]; rfl
            clear hb47 hgo
            generalize hpe : s.extract f k = p at *
            cases e1 : p.toList.isEmpty
            rotate_left
            · have ek : skipP p = true := by unfold skipP; rw [e1]; rfl
              go_wp2_with fail
              refine ⟨⟨k + 1, k + 1, j + 1, HNX.out, rfl, rfl, by rw [FS.out, HF.out, ek]; rfl, HM.out, _, HV.out, ?_⟩, by simp only [intOf]; omega⟩
              rw [KS.out, ek]; simpa using HO.out
            cases e2 : p.toList == [46]
            rotate_left
            · have ek : skipP p = true := by unfold skipP; rw [e1, e2]; rfl
              go_wp2_with fail
              refine ⟨⟨k + 1, k + 1, j + 1, HNX.out, rfl, rfl, by rw [FS.out, HF.out, ek]; rfl, HM.out, _, HV.out, ?_⟩, by simp only [intOf]; omega⟩
              rw [KS.out, ek]; simpa using HO.out
            have ek : skipP p = false := by unfold skipP; rw [e1, e2]; rfl
            go_wp2_with fail
            refine HCK.out.mono ?_
            rintro x w2 ⟨rfl, rfl⟩
            by_cases hfine : fineP p = true
            · have HX : Hid (fit (L.take (j + 1)) = true) := Lib.hid (by rw [FS.out, HF.out, hfine]; simp)
              have hor : (p.toList == [46, 46]) = true ∨ nameOk p = true := by unfold fineP at hfine; simpa using hfine
              have HGO : True := trivial
              clear HGO
              cases e3 : p.toList == [46, 46]
              · have e4 : nameOk p = true := by rcases hor with h | h; (· rw [e3] at h; cases h); exact h
                simp only [e4, if_true]
                go_wp2_with (at_builtin; go_must (refine wpList_app _ rfl _ _ 77 77 rfl w1.heap.size 9 i0 (.string ⟨#[]⟩) 1 16 Tryz.underlying77 hi hz0 hz1 hz2 rfl _ _ _ rfl (HO.out.alloc _) _ 1 [.string p] rfl ?c1 ?c2 ?c3 ?c4 ?_))
                case c1 => exact src_one Tryz.underlying77 _ _ _ rfl
                case c2 => have := KL.out; unfold maxLen; omega
                case c3 => have := KL.out; omega
                case c4 => have := HM.out.size; simp; omega
                intro v2 w3 hown hgrow hat
                have hG : Mods (Value.slice A (kept (L.take j)).length c).ownBlock.toList wr w3 := ((Mods.refl _ wr).alloc _).grown hgrow (fun x hx => Or.inl (by rw [hx]; simp))
                have hne : b + 2 ∉ (Value.slice A (kept (L.take j)).length c).ownBlock.toList := by
                  intro h
                  have := (HO.out.lt (b + 2) (by simpa using h)).1
                  have := HS.out
                  omega
                have hv3 := hG.heap HV.out hne
                have c0 : w3.cell? ⟨b + 2, 0, none⟩ = some (.bool r) := by rw [cell_of_row _ _ _ _ _ _ hv3]; rfl
                have c1 : w3.cell? ⟨b + 2, 1, none⟩ = some (.slice A (kept (L.take j)).length c) := by rw [cell_of_row _ _ _ _ _ _ hv3]; rfl
                have k1 : w3.frozen? ⟨b + 2, 1, none⟩ = false := frozen_of_row _ _ _ _ _ hv3
                have HG3 := Lib.hid ((HM.out.alloc _).grown hgrow (fun x hx => Or.inr (HO.out.lt x hx).1))
                have HV3 := Lib.hid hv3
                obtain ⟨A2, c2, rfl⟩ := own_ctor hown
                have HN := Lib.hid hown
                clear hown hgrow hat hG hne hv3
                go_wp2_with fail
                refine ⟨⟨k + 1, k + 1, j + 1, HNX.out, rfl, rfl, HX.out, HG3.out.setCell (Or.inl (by simp)) _, _, (by rw [heap_setCell_same _ _ _ _ _ _ HV3.out]; rfl), ?_⟩, by simp only [intOf]; omega⟩
                refine ownsRow_set ?_ ?_ _
                · rw [KS.out, ek]; simpa using HN.out
                · intro h
                  have := (HN.out.lt (b + 2) h).1
                  have := HS.out
                  omega
              · cases e4 : nameOk p
                · simp only [Bool.false_eq_true, if_false]
                  go_wp2_with (at_builtin; go_must (refine wpList_app _ rfl _ _ 77 77 rfl w1.heap.size 9 i0 (.string ⟨#[]⟩) 1 16 Tryz.underlying77 hi hz0 hz1 hz2 rfl _ _ _ rfl (HO.out.alloc _) _ 1 [.string p] rfl ?c1 ?c2 ?c3 ?c4 ?_))
                  case c1 => exact src_one Tryz.underlying77 _ _ _ rfl
                  case c2 => have := KL.out; unfold maxLen; omega
                  case c3 => have := KL.out; omega
                  case c4 => have := HM.out.size; simp; omega
                  intro v2 w3 hown hgrow hat
                  have hG : Mods (Value.slice A (kept (L.take j)).length c).ownBlock.toList wr w3 := ((Mods.refl _ wr).alloc _).grown hgrow (fun x hx => Or.inl (by rw [hx]; simp))
                  have hne : b + 2 ∉ (Value.slice A (kept (L.take j)).length c).ownBlock.toList := by
                    intro h
                    have := (HO.out.lt (b + 2) (by simpa using h)).1
                    have := HS.out
                    omega
                  have hv3 := hG.heap HV.out hne
                  have c0 : w3.cell? ⟨b + 2, 0, none⟩ = some (.bool r) := by rw [cell_of_row _ _ _ _ _ _ hv3]; rfl
                  have c1 : w3.cell? ⟨b + 2, 1, none⟩ = some (.slice A (kept (L.take j)).length c) := by rw [cell_of_row _ _ _ _ _ _ hv3]; rfl
                  have k1 : w3.frozen? ⟨b + 2, 1, none⟩ = false := frozen_of_row _ _ _ _ _ hv3
                  have HG3 := Lib.hid ((HM.out.alloc _).grown hgrow (fun x hx => Or.inr (HO.out.lt x hx).1))
                  have HV3 := Lib.hid hv3
                  obtain ⟨A2, c2, rfl⟩ := own_ctor hown
                  have HN := Lib.hid hown
                  clear hown hgrow hat hG hne hv3
                  go_wp2_with fail
                  refine ⟨⟨k + 1, k + 1, j + 1, HNX.out, rfl, rfl, HX.out, HG3.out.setCell (Or.inl (by simp)) _, _, (by rw [heap_setCell_same _ _ _ _ _ _ HV3.out]; rfl), ?_⟩, by simp only [intOf]; omega⟩
                  refine ownsRow_set ?_ ?_ _
                  · rw [KS.out, ek]; simpa using HN.out
                  · intro h
                    have := (HN.out.lt (b + 2) h).1
                    have := HS.out
                    omega
                · simp only [if_true]
                  go_wp2_with (at_builtin; go_must (refine wpList_app _ rfl _ _ 77 77 rfl w1.heap.size 9 i0 (.string ⟨#[]⟩) 1 16 Tryz.underlying77 hi hz0 hz1 hz2 rfl _ _ _ rfl (HO.out.alloc _) _ 1 [.string p] rfl ?c1 ?c2 ?c3 ?c4 ?_))
                  case c1 => exact src_one Tryz.underlying77 _ _ _ rfl
                  case c2 => have := KL.out; unfold maxLen; omega
                  case c3 => have := KL.out; omega
                  case c4 => have := HM.out.size; simp; omega
                  intro v2 w3 hown hgrow hat
                  have hG : Mods (Value.slice A (kept (L.take j)).length c).ownBlock.toList wr w3 := ((Mods.refl _ wr).alloc _).grown hgrow (fun x hx => Or.inl (by rw [hx]; simp))
                  have hne : b + 2 ∉ (Value.slice A (kept (L.take j)).length c).ownBlock.toList := by
                    intro h
                    have := (HO.out.lt (b + 2) (by simpa using h)).1
                    have := HS.out
                    omega
                  have hv3 := hG.heap HV.out hne
                  have c0 : w3.cell? ⟨b + 2, 0, none⟩ = some (.bool r) := by rw [cell_of_row _ _ _ _ _ _ hv3]; rfl
                  have c1 : w3.cell? ⟨b + 2, 1, none⟩ = some (.slice A (kept (L.take j)).length c) := by rw [cell_of_row _ _ _ _ _ _ hv3]; rfl
                  have k1 : w3.frozen? ⟨b + 2, 1, none⟩ = false := frozen_of_row _ _ _ _ _ hv3
                  have HG3 := Lib.hid ((HM.out.alloc _).grown hgrow (fun x hx => Or.inr (HO.out.lt x hx).1))
                  have HV3 := Lib.hid hv3
                  obtain ⟨A2, c2, rfl⟩ := own_ctor hown
                  have HN := Lib.hid hown
                  clear hown hgrow hat hG hne hv3
                  go_wp2_with fail
                  refine ⟨⟨k + 1, k + 1, j + 1, HNX.out, rfl, rfl, HX.out, HG3.out.setCell (Or.inl (by simp)) _, _, (by rw [heap_setCell_same _ _ _ _ _ _ HV3.out]; rfl), ?_⟩, by simp only [intOf]; omega⟩
                  refine ownsRow_set ?_ ?_ _
                  · rw [KS.out, ek]; simpa using HN.out
                  · intro h
                    have := (HN.out.lt (b + 2) h).1
                    have := HS.out
                    omega
            · have e3 : (p.toList == [46, 46]) = false := by unfold fineP at hfine; simp at hfine; simpa using hfine.1
              have e4 : nameOk p = false := by unfold fineP at hfine; simp at hfine; exact hfine.2
              have ef : fit L = false := FN.out (by rw [FS.out, HF.out, ek]; unfold fineP; rw [e3, e4]; rfl)
              have d0 : wr.cell? ⟨b, 0, none⟩ = some (.bool false) := by rw [cell_of_row _ _ _ _ _ _ HB0'.out]; rfl
              have d1 : wr.cell? ⟨b, 1, none⟩ = some (.slice none 0 0) := by rw [cell_of_row _ _ _ _ _ _ HB0'.out]; rfl
              have g0 : wr.cell? ⟨b + 1, 0, none⟩ = some (.bool false) := by rw [cell_of_row _ _ _ _ _ _ HB1'.out]; rfl
              have g1 : wr.cell? ⟨b + 1, 1, none⟩ = some (.slice none 0 0) := by rw [cell_of_row _ _ _ _ _ _ HB1'.out]; rfl
              have k0 : wr.frozen? ⟨b, 0, none⟩ = false := frozen_of_row _ _ _ _ _ HB0'.out
              have k1 : wr.frozen? ⟨b, 1, none⟩ = false := frozen_of_row _ _ _ _ _ HB0'.out
              simp only [e4, Bool.false_eq_true, if_false]
              go_wp2_with fail
              all_goals refine bodyPost_ret (v := .tuple #[.agg #[.bool false, .slice none 0 0], .int .i64 51]) (by simp [results, Tryz.results62, go_sem, d0, d1]) rfl ?_
              all_goals try rw [ef]
              all_goals exact ⟨_, rfl, ((HW.out.trans HM.out (by intro x hx; simp at hx; right; omega)).setCell (Or.inr (by show w.heap.size ≤ b; omega)) _).setCell (Or.inr (by show w.heap.size ≤ b; omega)) _, World.ownsRow_nil _ _ _ _⟩
          · obtain rfl : k = s.size := by omega
            clear hb47 hgo
            generalize hpe : s.extract f s.size = p at *
            cases e1 : p.toList.isEmpty
            rotate_left
            · have ek : skipP p = true := by unfold skipP; rw [e1]; rfl
              go_wp2_with fail
              refine ⟨⟨s.size + 1, s.size + 1, j + 1, HNX.out, rfl, rfl, by rw [FS.out, HF.out, ek]; rfl, HM.out, _, HV.out, ?_⟩, by simp only [intOf]; omega⟩
              rw [KS.out, ek]; simpa using HO.out
            cases e2 : p.toList == [46]
            rotate_left
            · have ek : skipP p = true := by unfold skipP; rw [e1, e2]; rfl
              go_wp2_with fail
              refine ⟨⟨s.size + 1, s.size + 1, j + 1, HNX.out, rfl, rfl, by rw [FS.out, HF.out, ek]; rfl, HM.out, _, HV.out, ?_⟩, by simp only [intOf]; omega⟩
              rw [KS.out, ek]; simpa using HO.out
            have ek : skipP p = false := by unfold skipP; rw [e1, e2]; rfl
            go_wp2_with fail
            refine HCK.out.mono ?_
            rintro x w2 ⟨rfl, rfl⟩
            by_cases hfine : fineP p = true
            · have HX : Hid (fit (L.take (j + 1)) = true) := Lib.hid (by rw [FS.out, HF.out, hfine]; simp)
              have hor : (p.toList == [46, 46]) = true ∨ nameOk p = true := by unfold fineP at hfine; simpa using hfine
              have HGO : True := trivial
              clear HGO
              cases e3 : p.toList == [46, 46]
              · have e4 : nameOk p = true := by rcases hor with h | h; (· rw [e3] at h; cases h); exact h
                simp only [e4, if_true]
                go_wp2_with (at_builtin; go_must (refine wpList_app _ rfl _ _ 77 77 rfl w1.heap.size 9 i0 (.string ⟨#[]⟩) 1 16 Tryz.underlying77 hi hz0 hz1 hz2 rfl _ _ _ rfl (HO.out.alloc _) _ 1 [.string p] rfl ?c1 ?c2 ?c3 ?c4 ?_))
                case c1 => exact src_one Tryz.underlying77 _ _ _ rfl
                case c2 => have := KL.out; unfold maxLen; omega
                case c3 => have := KL.out; omega
                case c4 => have := HM.out.size; simp; omega
                intro v2 w3 hown hgrow hat
                have hG : Mods (Value.slice A (kept (L.take j)).length c).ownBlock.toList wr w3 := ((Mods.refl _ wr).alloc _).grown hgrow (fun x hx => Or.inl (by rw [hx]; simp))
                have hne : b + 2 ∉ (Value.slice A (kept (L.take j)).length c).ownBlock.toList := by
                  intro h
                  have := (HO.out.lt (b + 2) (by simpa using h)).1
                  have := HS.out
                  omega
                have hv3 := hG.heap HV.out hne
                have c0 : w3.cell? ⟨b + 2, 0, none⟩ = some (.bool r) := by rw [cell_of_row _ _ _ _ _ _ hv3]; rfl
                have c1 : w3.cell? ⟨b + 2, 1, none⟩ = some (.slice A (kept (L.take j)).length c) := by rw [cell_of_row _ _ _ _ _ _ hv3]; rfl
                have k1 : w3.frozen? ⟨b + 2, 1, none⟩ = false := frozen_of_row _ _ _ _ _ hv3
                have HG3 := Lib.hid ((HM.out.alloc _).grown hgrow (fun x hx => Or.inr (HO.out.lt x hx).1))
                have HV3 := Lib.hid hv3
                obtain ⟨A2, c2, rfl⟩ := own_ctor hown
                have HN := Lib.hid hown
                clear hown hgrow hat hG hne hv3
                go_wp2_with fail
                refine ⟨⟨s.size + 1, s.size + 1, j + 1, HNX.out, rfl, rfl, HX.out, HG3.out.setCell (Or.inl (by simp)) _, _, (by rw [heap_setCell_same _ _ _ _ _ _ HV3.out]; rfl), ?_⟩, by simp only [intOf]; omega⟩
                refine ownsRow_set ?_ ?_ _
                · rw [KS.out, ek]; simpa using HN.out
                · intro h
                  have := (HN.out.lt (b + 2) h).1
                  have := HS.out
                  omega
              · cases e4 : nameOk p
                · simp only [Bool.false_eq_true, if_false]
                  go_wp2_with (at_builtin; go_must (refine wpList_app _ rfl _ _ 77 77 rfl w1.heap.size 9 i0 (.string ⟨#[]⟩) 1 16 Tryz.underlying77 hi hz0 hz1 hz2 rfl _ _ _ rfl (HO.out.alloc _) _ 1 [.string p] rfl ?c1 ?c2 ?c3 ?c4 ?_))
                  case c1 => exact src_one Tryz.underlying77 _ _ _ rfl
                  case c2 => have := KL.out; unfold maxLen; omega
                  case c3 => have := KL.out; omega
                  case c4 => have := HM.out.size; simp; omega
                  intro v2 w3 hown hgrow hat
                  have hG : Mods (Value.slice A (kept (L.take j)).length c).ownBlock.toList wr w3 := ((Mods.refl _ wr).alloc _).grown hgrow (fun x hx => Or.inl (by rw [hx]; simp))
                  have hne : b + 2 ∉ (Value.slice A (kept (L.take j)).length c).ownBlock.toList := by
                    intro h
                    have := (HO.out.lt (b + 2) (by simpa using h)).1
                    have := HS.out
                    omega
                  have hv3 := hG.heap HV.out hne
                  have c0 : w3.cell? ⟨b + 2, 0, none⟩ = some (.bool r) := by rw [cell_of_row _ _ _ _ _ _ hv3]; rfl
                  have c1 : w3.cell? ⟨b + 2, 1, none⟩ = some (.slice A (kept (L.take j)).length c) := by rw [cell_of_row _ _ _ _ _ _ hv3]; rfl
                  have k1 : w3.frozen? ⟨b + 2, 1, none⟩ = false := frozen_of_row _ _ _ _ _ hv3
                  have HG3 := Lib.hid ((HM.out.alloc _).grown hgrow (fun x hx => Or.inr (HO.out.lt x hx).1))
                  have HV3 := Lib.hid hv3
                  obtain ⟨A2, c2, rfl⟩ := own_ctor hown
                  have HN := Lib.hid hown
                  clear hown hgrow hat hG hne hv3
                  go_wp2_with fail
                  refine ⟨⟨s.size + 1, s.size + 1, j + 1, HNX.out, rfl, rfl, HX.out, HG3.out.setCell (Or.inl (by simp)) _, _, (by rw [heap_setCell_same _ _ _ _ _ _ HV3.out]; rfl), ?_⟩, by simp only [intOf]; omega⟩
                  refine ownsRow_set ?_ ?_ _
                  · rw [KS.out, ek]; simpa using HN.out
                  · intro h
                    have := (HN.out.lt (b + 2) h).1
                    have := HS.out
                    omega
                · simp only [if_true]
                  go_wp2_with (at_builtin; go_must (refine wpList_app _ rfl _ _ 77 77 rfl w1.heap.size 9 i0 (.string ⟨#[]⟩) 1 16 Tryz.underlying77 hi hz0 hz1 hz2 rfl _ _ _ rfl (HO.out.alloc _) _ 1 [.string p] rfl ?c1 ?c2 ?c3 ?c4 ?_))
                  case c1 => exact src_one Tryz.underlying77 _ _ _ rfl
                  case c2 => have := KL.out; unfold maxLen; omega
                  case c3 => have := KL.out; omega
                  case c4 => have := HM.out.size; simp; omega
                  intro v2 w3 hown hgrow hat
                  have hG : Mods (Value.slice A (kept (L.take j)).length c).ownBlock.toList wr w3 := ((Mods.refl _ wr).alloc _).grown hgrow (fun x hx => Or.inl (by rw [hx]; simp))
                  have hne : b + 2 ∉ (Value.slice A (kept (L.take j)).length c).ownBlock.toList := by
                    intro h
                    have := (HO.out.lt (b + 2) (by simpa using h)).1
                    have := HS.out
                    omega
                  have hv3 := hG.heap HV.out hne
                  have c0 : w3.cell? ⟨b + 2, 0, none⟩ = some (.bool r) := by rw [cell_of_row _ _ _ _ _ _ hv3]; rfl
                  have c1 : w3.cell? ⟨b + 2, 1, none⟩ = some (.slice A (kept (L.take j)).length c) := by rw [cell_of_row _ _ _ _ _ _ hv3]; rfl
                  have k1 : w3.frozen? ⟨b + 2, 1, none⟩ = false := frozen_of_row _ _ _ _ _ hv3
                  have HG3 := Lib.hid ((HM.out.alloc _).grown hgrow (fun x hx => Or.inr (HO.out.lt x hx).1))
                  have HV3 := Lib.hid hv3
                  obtain ⟨A2, c2, rfl⟩ := own_ctor hown
                  have HN := Lib.hid hown
                  clear hown hgrow hat hG hne hv3
                  go_wp2_with fail
                  refine ⟨⟨s.size + 1, s.size + 1, j + 1, HNX.out, rfl, rfl, HX.out, HG3.out.setCell (Or.inl (by simp)) _, _, (by rw [heap_setCell_same _ _ _ _ _ _ HV3.out]; rfl), ?_⟩, by simp only [intOf]; omega⟩
                  refine ownsRow_set ?_ ?_ _
                  · rw [KS.out, ek]; simpa using HN.out
                  · intro h
                    have := (HN.out.lt (b + 2) h).1
                    have := HS.out
                    omega
            · have e3 : (p.toList == [46, 46]) = false := by unfold fineP at hfine; simp at hfine; simpa using hfine.1
              have e4 : nameOk p = false := by unfold fineP at hfine; simp at hfine; exact hfine.2
              have ef : fit L = false := FN.out (by rw [FS.out, HF.out, ek]; unfold fineP; rw [e3, e4]; rfl)
              have d0 : wr.cell? ⟨b, 0, none⟩ = some (.bool false) := by rw [cell_of_row _ _ _ _ _ _ HB0'.out]; rfl
              have d1 : wr.cell? ⟨b, 1, none⟩ = some (.slice none 0 0) := by rw [cell_of_row _ _ _ _ _ _ HB0'.out]; rfl
              have g0 : wr.cell? ⟨b + 1, 0, none⟩ = some (.bool false) := by rw [cell_of_row _ _ _ _ _ _ HB1'.out]; rfl
              have g1 : wr.cell? ⟨b + 1, 1, none⟩ = some (.slice none 0 0) := by rw [cell_of_row _ _ _ _ _ _ HB1'.out]; rfl
              have k0 : wr.frozen? ⟨b, 0, none⟩ = false := frozen_of_row _ _ _ _ _ HB0'.out
              have k1 : wr.frozen? ⟨b, 1, none⟩ = false := frozen_of_row _ _ _ _ _ HB0'.out
              simp only [e4, Bool.false_eq_true, if_false]
              go_wp2_with fail
              all_goals refine bodyPost_ret (v := .tuple #[.agg #[.bool false, .slice none 0 0], .int .i64 51]) (by simp [results, Tryz.results62, go_sem, d0, d1]) rfl ?_
              all_goals try rw [ef]
              all_goals exact ⟨_, rfl, ((HW.out.trans HM.out (by intro x hx; simp at hx; right; omega)).setCell (Or.inr (by show w.heap.size ≤ b; omega)) _).setCell (Or.inr (by show w.heap.size ≤ b; omega)) _, World.ownsRow_nil _ _ _ _⟩
  · have hrf : r = false := by rw [HRT.out, e0]; rfl
    subst hrf
    clear hszs HRT
    go_wp2_with fail
    generalize hw1 : ((w.alloc (.cells #[.bool false, .slice none 0 0] 103)).alloc (.cells #[.bool false, .slice none 0 0] 103)).alloc (.cells #[.bool false, .slice none 0 0] 103) = w1 at *
    have HB0 := HB0a
    have HB1 := HB1a
    have HB2 := HB2a
    have HW := HWa
    have HS := HSa
    clear HB0a HB1a HB2a HWa HSa hw1
    generalize hbb : w.heap.size = b at *
    go_loopw [6, 7] (fun fr i wr => RelRs s L (b + 2) false w1 fr i wr) (fun _ i _ => s.size + 1 - (intOf i).toNat)
    case atStart => exact ⟨0, 0, 0, HC0.out, rfl, rfl, rfl, Mods.refl _ _, _, HB2.out, World.ownsRow_nil _ _ _ _⟩
    case round =>
      obtain ⟨f, k, j, hcut, rfl, rfl, hf, hm, v, hv, ho⟩ := hrel
      obtain ⟨A, c, rfl⟩ := own_ctor ho
      have HO := Lib.hid ho
      have HM := Lib.hid hm
      have HV := Lib.hid hv
      have HF := Lib.hid hf
      have HCU := Lib.hid hcut
      have c0 : wr.cell? ⟨b + 2, 0, none⟩ = some (.bool false) := by rw [cell_of_row _ _ _ _ _ _ hv]; rfl
      have c1 : wr.cell? ⟨b + 2, 1, none⟩ = some (.slice A (kept (L.take j)).length c) := by rw [cell_of_row _ _ _ _ _ _ hv]; rfl
      have HB0' := Lib.hid (hm.heap HB0.out (by simp))
      have HB1' := Lib.hid (hm.heap HB1.out (by simp))
      have hfk := hcut.1
      have hks := hcut.2.1
      clear ho hm hf hcut hv
      rcases Nat.lt_or_ge s.size k with hgt | hle
      · have hkl : j = L.length := HCU.out.2.2.2.2 (by omega)
        subst hkl
        have hfit : fit L = true := by have := HF.out; rwa [List.take_length] at this
        rw [List.take_length] at HO c1
        have d0 : wr.cell? ⟨b, 0, none⟩ = some (.bool false) := by rw [cell_of_row _ _ _ _ _ _ HB0'.out]; rfl
        have d1 : wr.cell? ⟨b, 1, none⟩ = some (.slice none 0 0) := by rw [cell_of_row _ _ _ _ _ _ HB0'.out]; rfl
        have k0 : wr.frozen? ⟨b, 0, none⟩ = false := frozen_of_row _ _ _ _ _ HB0'.out
        have k1 : wr.frozen? ⟨b, 1, none⟩ = false := frozen_of_row _ _ _ _ _ HB0'.out
        go_wp2_with fail
        all_goals first | (exfalso; simp_all; done) | skip
        refine bodyPost_ret (v := .tuple #[.agg #[.bool false, .slice A (kept L).length c], .int .i64 0]) (by simp [results, Tryz.results62, go_sem, d0, d1]) rfl ?_
        try rw [hfit]
        refine ⟨_, rfl, ((HW.out.trans HM.out (by intro x hx; simp at hx; right; omega)).setCell (Or.inr (by show w.heap.size ≤ b; omega)) _).setCell (Or.inr (by show w.heap.size ≤ b; omega)) _, ownsRow_set (ownsRow_set (ownsRow_base HO.out (by rw [HS.out]; omega)) ?_ _) ?_ _⟩
        · intro h; have := (HO.out.lt b h).1; have := HS.out; omega
        · intro h; have := (HO.out.lt b h).1; have := HS.out; omega
      · by_cases hgo : ∃ h : k < s.size, s[k] ≠ 47
        · obtain ⟨hlt, hne⟩ := hgo
          have hnb : ((s[k].toNat : Int) == 47) = false := by
            simp
            intro e
            exact hne (UInt8.toNat_inj.1 (by simpa using (show s[k].toNat = 47 by omega)))
          have HN := Lib.hid (HCU.out.go hlt hne)
          clear c0 c1
          go_wp2_with fail
          exact ⟨⟨f, k + 1, j, HN.out, rfl, rfl, HF.out, HM.out, _, HV.out, HO.out⟩, by simp only [intOf]; omega⟩
        · have hb47 : ∀ h : k < s.size, s[k] = 47 := fun h => by
            rcases Decidable.em (s[k] = 47) with e | e
            · exact e
            · exact absurd ⟨h, e⟩ hgo
          obtain ⟨hp, hnx⟩ := HCU.out.piece hle hb47
          have HNX := Lib.hid hnx
          have HCK := Lib.hid (rcheck_any (s.extract f k) wr (by rw [ByteArray.size_extract]; omega))
          have KS := Lib.hid (kept_step L j _ hp)
          have FS := Lib.hid (fit_step L j _ hp)
          have FN := Lib.hid (fit_not L (j + 1))
          have KL : Hid ((kept (L.take j)).length ≤ 4294967290) := Lib.hid (Nat.le_trans (List.length_filter_le _ _) (by rw [List.length_take]; have := HLL.out; omega))
          have hxl : (L[j]? = some (s.extract f k)) := hp
          clear hp hnx hxl
          rcases Nat.lt_or_ge k s.size with hlt | hge
          · have hbb : ((s[k].toNat : Int) == 47) = true := by rw [hb47 hlt]; rfl
            clear hb47 hgo
            generalize hpe : s.extract f k = p at *
            cases e1 : p.toList.isEmpty
            rotate_left
            · have ek : skipP p = true := by unfold skipP; rw [e1]; rfl
              go_wp2_with fail
              refine ⟨⟨k + 1, k + 1, j + 1, HNX.out, rfl, rfl, by rw [FS.out, HF.out, ek]; rfl, HM.out, _, HV.out, ?_⟩, by simp only [intOf]; omega⟩
              rw [KS.out, ek]; simpa using HO.out
            cases e2 : p.toList == [46]
            rotate_left
            · have ek : skipP p = true := by unfold skipP; rw [e1, e2]; rfl
              go_wp2_with fail
              refine ⟨⟨k + 1, k + 1, j + 1, HNX.out, rfl, rfl, by rw [FS.out, HF.out, ek]; rfl, HM.out, _, HV.out, ?_⟩, by simp only [intOf]; omega⟩
              rw [KS.out, ek]; simpa using HO.out
            have ek : skipP p = false := by unfold skipP; rw [e1, e2]; rfl
            go_wp2_with fail
            refine HCK.out.mono ?_
            rintro x w2 ⟨rfl, rfl⟩
            by_cases hfine : fineP p = true
            · have HX : Hid (fit (L.take (j + 1)) = true) := Lib.hid (by rw [FS.out, HF.out, hfine]; simp)
              have hor : (p.toList == [46, 46]) = true ∨ nameOk p = true := by unfold fineP at hfine; simpa using hfine
              have HGO : True := trivial
              clear HGO
              cases e3 : p.toList == [46, 46]
              · have e4 : nameOk p = true := by rcases hor with h | h; (· rw [e3] at h; cases h); exact h
                simp only [e4, if_true]
                go_wp2_with (at_builtin; go_must (refine wpList_app _ rfl _ _ 77 77 rfl w1.heap.size 9 i0 (.string ⟨#[]⟩) 1 16 Tryz.underlying77 hi hz0 hz1 hz2 rfl _ _ _ rfl (HO.out.alloc _) _ 1 [.string p] rfl ?c1 ?c2 ?c3 ?c4 ?_))
                case c1 => exact src_one Tryz.underlying77 _ _ _ rfl
                case c2 => have := KL.out; unfold maxLen; omega
                case c3 => have := KL.out; omega
                case c4 => have := HM.out.size; simp; omega
                intro v2 w3 hown hgrow hat
                have hG : Mods (Value.slice A (kept (L.take j)).length c).ownBlock.toList wr w3 := ((Mods.refl _ wr).alloc _).grown hgrow (fun x hx => Or.inl (by rw [hx]; simp))
                have hne : b + 2 ∉ (Value.slice A (kept (L.take j)).length c).ownBlock.toList := by
                  intro h
                  have := (HO.out.lt (b + 2) (by simpa using h)).1
                  have := HS.out
                  omega
                have hv3 := hG.heap HV.out hne
                have c0 : w3.cell? ⟨b + 2, 0, none⟩ = some (.bool false) := by rw [cell_of_row _ _ _ _ _ _ hv3]; rfl
                have c1 : w3.cell? ⟨b + 2, 1, none⟩ = some (.slice A (kept (L.take j)).length c) := by rw [cell_of_row _ _ _ _ _ _ hv3]; rfl
                have k1 : w3.frozen? ⟨b + 2, 1, none⟩ = false := frozen_of_row _ _ _ _ _ hv3
                have HG3 := Lib.hid ((HM.out.alloc _).grown hgrow (fun x hx => Or.inr (HO.out.lt x hx).1))
                have HV3 := Lib.hid hv3
                obtain ⟨A2, c2, rfl⟩ := own_ctor hown
                have HN := Lib.hid hown
                clear hown hgrow hat hG hne hv3
                go_wp2_with fail
                refine ⟨⟨k + 1, k + 1, j + 1, HNX.out, rfl, rfl, HX.out, HG3.out.setCell (Or.inl (by simp)) _, _, (by rw [heap_setCell_same _ _ _ _ _ _ HV3.out]; rfl), ?_⟩, by simp only [intOf]; omega⟩
                refine ownsRow_set ?_ ?_ _
                · rw [KS.out, ek]; simpa using HN.out
                · intro h
                  have := (HN.out.lt (b + 2) h).1
                  have := HS.out
                  omega
              · cases e4 : nameOk p
                · simp only [Bool.false_eq_true, if_false]
                  go_wp2_with (at_builtin; go_must (refine wpList_app _ rfl _ _ 77 77 rfl w1.heap.size 9 i0 (.string ⟨#[]⟩) 1 16 Tryz.underlying77 hi hz0 hz1 hz2 rfl _ _ _ rfl (HO.out.alloc _) _ 1 [.string p] rfl ?c1 ?c2 ?c3 ?c4 ?_))
                  case c1 => exact src_one Tryz.underlying77 _ _ _ rfl
                  case c2 => have := KL.out; unfold maxLen; omega
                  case c3 => have := KL.out; omega
                  case c4 => have := HM.out.size; simp; omega
                  intro v2 w3 hown hgrow hat
                  have hG : Mods (Value.slice A (kept (L.take j)).length c).ownBlock.toList wr w3 := ((Mods.refl _ wr).alloc _).grown hgrow (fun x hx => Or.inl (by rw [hx]; simp))
                  have hne : b + 2 ∉ (Value.slice A (kept (L.take j)).length c).ownBlock.toList := by
                    intro h
                    have := (HO.out.lt (b + 2) (by simpa using h)).1
                    have := HS.out
                    omega
                  have hv3 := hG.heap HV.out hne
                  have c0 : w3.cell? ⟨b + 2, 0, none⟩ = some (.bool false) := by rw [cell_of_row _ _ _ _ _ _ hv3]; rfl
                  have c1 : w3.cell? ⟨b + 2, 1, none⟩ = some (.slice A (kept (L.take j)).length c) := by rw [cell_of_row _ _ _ _ _ _ hv3]; rfl
                  have k1 : w3.frozen? ⟨b + 2, 1, none⟩ = false := frozen_of_row _ _ _ _ _ hv3
                  have HG3 := Lib.hid ((HM.out.alloc _).grown hgrow (fun x hx => Or.inr (HO.out.lt x hx).1))
                  have HV3 := Lib.hid hv3
                  obtain ⟨A2, c2, rfl⟩ := own_ctor hown
                  have HN := Lib.hid hown
                  clear hown hgrow hat hG hne hv3
                  go_wp2_with fail
                  refine ⟨⟨k + 1, k + 1, j + 1, HNX.out, rfl, rfl, HX.out, HG3.out.setCell (Or.inl (by simp)) _, _, (by rw [heap_setCell_same _ _ _ _ _ _ HV3.out]; rfl), ?_⟩, by simp only [intOf]; omega⟩
                  refine ownsRow_set ?_ ?_ _
                  · rw [KS.out, ek]; simpa using HN.out
                  · intro h
                    have := (HN.out.lt (b + 2) h).1
                    have := HS.out
                    omega
                · simp only [if_true]
                  go_wp2_with (at_builtin; go_must (refine wpList_app _ rfl _ _ 77 77 rfl w1.heap.size 9 i0 (.string ⟨#[]⟩) 1 16 Tryz.underlying77 hi hz0 hz1 hz2 rfl _ _ _ rfl (HO.out.alloc _) _ 1 [.string p] rfl ?c1 ?c2 ?c3 ?c4 ?_))
                  case c1 => exact src_one Tryz.underlying77 _ _ _ rfl
                  case c2 => have := KL.out; unfold maxLen; omega
                  case c3 => have := KL.out; omega
                  case c4 => have := HM.out.size; simp; omega
                  intro v2 w3 hown hgrow hat
                  have hG : Mods (Value.slice A (kept (L.take j)).length c).ownBlock.toList wr w3 := ((Mods.refl _ wr).alloc _).grown hgrow (fun x hx => Or.inl (by rw [hx]; simp))
                  have hne : b + 2 ∉ (Value.slice A (kept (L.take j)).length c).ownBlock.toList := by
                    intro h
                    have := (HO.out.lt (b + 2) (by simpa using h)).1
                    have := HS.out
                    omega
                  have hv3 := hG.heap HV.out hne
                  have c0 : w3.cell? ⟨b + 2, 0, none⟩ = some (.bool false) := by rw [cell_of_row _ _ _ _ _ _ hv3]; rfl
                  have c1 : w3.cell? ⟨b + 2, 1, none⟩ = some (.slice A (kept (L.take j)).length c) := by rw [cell_of_row _ _ _ _ _ _ hv3]; rfl
                  have k1 : w3.frozen? ⟨b + 2, 1, none⟩ = false := frozen_of_row _ _ _ _ _ hv3
                  have HG3 := Lib.hid ((HM.out.alloc _).grown hgrow (fun x hx => Or.inr (HO.out.lt x hx).1))
                  have HV3 := Lib.hid hv3
                  obtain ⟨A2, c2, rfl⟩ := own_ctor hown
                  have HN := Lib.hid hown
                  clear hown hgrow hat hG hne hv3
                  go_wp2_with fail
                  refine ⟨⟨k + 1, k + 1, j + 1, HNX.out, rfl, rfl, HX.out, HG3.out.setCell (Or.inl (by simp)) _, _, (by rw [heap_setCell_same _ _ _ _ _ _ HV3.out]; rfl), ?_⟩, by simp only [intOf]; omega⟩
                  refine ownsRow_set ?_ ?_ _
                  · rw [KS.out, ek]; simpa using HN.out
                  · intro h
                    have := (HN.out.lt (b + 2) h).1
                    have := HS.out
                    omega
            · have e3 : (p.toList == [46, 46]) = false := by unfold fineP at hfine; simp at hfine; simpa using hfine.1
              have e4 : nameOk p = false := by unfold fineP at hfine; simp at hfine; exact hfine.2
              have ef : fit L = false := FN.out (by rw [FS.out, HF.out, ek]; unfold fineP; rw [e3, e4]; rfl)
              have d0 : wr.cell? ⟨b, 0, none⟩ = some (.bool false) := by rw [cell_of_row _ _ _ _ _ _ HB0'.out]; rfl
              have d1 : wr.cell? ⟨b, 1, none⟩ = some (.slice none 0 0) := by rw [cell_of_row _ _ _ _ _ _ HB0'.out]; rfl
              have g0 : wr.cell? ⟨b + 1, 0, none⟩ = some (.bool false) := by rw [cell_of_row _ _ _ _ _ _ HB1'.out]; rfl
              have g1 : wr.cell? ⟨b + 1, 1, none⟩ = some (.slice none 0 0) := by rw [cell_of_row _ _ _ _ _ _ HB1'.out]; rfl
              have k0 : wr.frozen? ⟨b, 0, none⟩ = false := frozen_of_row _ _ _ _ _ HB0'.out
              have k1 : wr.frozen? ⟨b, 1, none⟩ = false := frozen_of_row _ _ _ _ _ HB0'.out
              simp only [e4, Bool.false_eq_true, if_false]
              go_wp2_with fail
              all_goals refine bodyPost_ret (v := .tuple #[.agg #[.bool false, .slice none 0 0], .int .i64 51]) (by simp [results, Tryz.results62, go_sem, d0, d1]) rfl ?_
              all_goals try rw [ef]
              all_goals exact ⟨_, rfl, ((HW.out.trans HM.out (by intro x hx; simp at hx; right; omega)).setCell (Or.inr (by show w.heap.size ≤ b; omega)) _).setCell (Or.inr (by show w.heap.size ≤ b; omega)) _, World.ownsRow_nil _ _ _ _⟩
          · obtain rfl : k = s.size := by omega
            clear hb47 hgo
            generalize hpe : s.extract f s.size = p at *
            cases e1 : p.toList.isEmpty
            rotate_left
            · have ek : skipP p = true := by unfold skipP; rw [e1]; rfl
              go_wp2_with fail
              refine ⟨⟨s.size + 1, s.size + 1, j + 1, HNX.out, rfl, rfl, by rw [FS.out, HF.out, ek]; rfl, HM.out, _, HV.out, ?_⟩, by simp only [intOf]; omega⟩
              rw [KS.out, ek]; simpa using HO.out
            cases e2 : p.toList == [46]
            rotate_left
            · have ek : skipP p = true := by unfold skipP; rw [e1, e2]; rfl
              go_wp2_with fail
              refine ⟨⟨s.size + 1, s.size + 1, j + 1, HNX.out, rfl, rfl, by rw [FS.out, HF.out, ek]; rfl, HM.out, _, HV.out, ?_⟩, by simp only [intOf]; omega⟩
              rw [KS.out, ek]; simpa using HO.out
            have ek : skipP p = false := by unfold skipP; rw [e1, e2]; rfl
            go_wp2_with fail
            refine HCK.out.mono ?_
            rintro x w2 ⟨rfl, rfl⟩
            by_cases hfine : fineP p = true
            · have HX : Hid (fit (L.take (j + 1)) = true) := Lib.hid (by rw [FS.out, HF.out, hfine]; simp)
              have hor : (p.toList == [46, 46]) = true ∨ nameOk p = true := by unfold fineP at hfine; simpa using hfine
              have HGO : True := trivial
              clear HGO
              cases e3 : p.toList == [46, 46]
              · have e4 : nameOk p = true := by rcases hor with h | h; (· rw [e3] at h; cases h); exact h
                simp only [e4, if_true]
                go_wp2_with (at_builtin; go_must (refine wpList_app _ rfl _ _ 77 77 rfl w1.heap.size 9 i0 (.string ⟨#[]⟩) 1 16 Tryz.underlying77 hi hz0 hz1 hz2 rfl _ _ _ rfl (HO.out.alloc _) _ 1 [.string p] rfl ?c1 ?c2 ?c3 ?c4 ?_))
                case c1 => exact src_one Tryz.underlying77 _ _ _ rfl
                case c2 => have := KL.out; unfold maxLen; omega
                case c3 => have := KL.out; omega
                case c4 => have := HM.out.size; simp; omega
                intro v2 w3 hown hgrow hat
                have hG : Mods (Value.slice A (kept (L.take j)).length c).ownBlock.toList wr w3 := ((Mods.refl _ wr).alloc _).grown hgrow (fun x hx => Or.inl (by rw [hx]; simp))
                have hne : b + 2 ∉ (Value.slice A (kept (L.take j)).length c).ownBlock.toList := by
                  intro h
                  have := (HO.out.lt (b + 2) (by simpa using h)).1
                  have := HS.out
                  omega
                have hv3 := hG.heap HV.out hne
                have c0 : w3.cell? ⟨b + 2, 0, none⟩ = some (.bool false) := by rw [cell_of_row _ _ _ _ _ _ hv3]; rfl
                have c1 : w3.cell? ⟨b + 2, 1, none⟩ = some (.slice A (kept (L.take j)).length c) := by rw [cell_of_row _ _ _ _ _ _ hv3]; rfl
                have k1 : w3.frozen? ⟨b + 2, 1, none⟩ = false := frozen_of_row _ _ _ _ _ hv3
                have HG3 := Lib.hid ((HM.out.alloc _).grown hgrow (fun x hx => Or.inr (HO.out.lt x hx).1))
                have HV3 := Lib.hid hv3
                obtain ⟨A2, c2, rfl⟩ := own_ctor hown
                have HN := Lib.hid hown
                clear hown hgrow hat hG hne hv3
                go_wp2_with fail
                refine ⟨⟨s.size + 1, s.size + 1, j + 1, HNX.out, rfl, rfl, HX.out, HG3.out.setCell (Or.inl (by simp)) _, _, (by rw [heap_setCell_same _ _ _ _ _ _ HV3.out]; rfl), ?_⟩, by simp only [intOf]; omega⟩
                refine ownsRow_set ?_ ?_ _
                · rw [KS.out, ek]; simpa using HN.out
                · intro h
                  have := (HN.out.lt (b + 2) h).1
                  have := HS.out
                  omega
              · cases e4 : nameOk p
                · simp only [Bool.false_eq_true, if_false]
                  go_wp2_with (at_builtin; go_must (refine wpList_app _ rfl _ _ 77 77 rfl w1.heap.size 9 i0 (.string ⟨#[]⟩) 1 16 Tryz.underlying77 hi hz0 hz1 hz2 rfl _ _ _ rfl (HO.out.alloc _) _ 1 [.string p] rfl ?c1 ?c2 ?c3 ?c4 ?_))
                  case c1 => exact src_one Tryz.underlying77 _ _ _ rfl
                  case c2 => have := KL.out; unfold maxLen; omega
                  case c3 => have := KL.out; omega
                  case c4 => have := HM.out.size; simp; omega
                  intro v2 w3 hown hgrow hat
                  have hG : Mods (Value.slice A (kept (L.take j)).length c).ownBlock.toList wr w3 := ((Mods.refl _ wr).alloc _).grown hgrow (fun x hx => Or.inl (by rw [hx]; simp))
                  have hne : b + 2 ∉ (Value.slice A (kept (L.take j)).length c).ownBlock.toList := by
                    intro h
                    have := (HO.out.lt (b + 2) (by simpa using h)).1
                    have := HS.out
                    omega
                  have hv3 := hG.heap HV.out hne
                  have c0 : w3.cell? ⟨b + 2, 0, none⟩ = some (.bool false) := by rw [cell_of_row _ _ _ _ _ _ hv3]; rfl
                  have c1 : w3.cell? ⟨b + 2, 1, none⟩ = some (.slice A (kept (L.take j)).length c) := by rw [cell_of_row _ _ _ _ _ _ hv3]; rfl
                  have k1 : w3.frozen? ⟨b + 2, 1, none⟩ = false := frozen_of_row _ _ _ _ _ hv3
                  have HG3 := Lib.hid ((HM.out.alloc _).grown hgrow (fun x hx => Or.inr (HO.out.lt x hx).1))
                  have HV3 := Lib.hid hv3
                  obtain ⟨A2, c2, rfl⟩ := own_ctor hown
                  have HN := Lib.hid hown
                  clear hown hgrow hat hG hne hv3
                  go_wp2_with fail
                  refine ⟨⟨s.size + 1, s.size + 1, j + 1, HNX.out, rfl, rfl, HX.out, HG3.out.setCell (Or.inl (by simp)) _, _, (by rw [heap_setCell_same _ _ _ _ _ _ HV3.out]; rfl), ?_⟩, by simp only [intOf]; omega⟩
                  refine ownsRow_set ?_ ?_ _
                  · rw [KS.out, ek]; simpa using HN.out
                  · intro h
                    have := (HN.out.lt (b + 2) h).1
                    have := HS.out
                    omega
                · simp only [if_true]
                  go_wp2_with (at_builtin; go_must (refine wpList_app _ rfl _ _ 77 77 rfl w1.heap.size 9 i0 (.string ⟨#[]⟩) 1 16 Tryz.underlying77 hi hz0 hz1 hz2 rfl _ _ _ rfl (HO.out.alloc _) _ 1 [.string p] rfl ?c1 ?c2 ?c3 ?c4 ?_))
                  case c1 => exact src_one Tryz.underlying77 _ _ _ rfl
                  case c2 => have := KL.out; unfold maxLen; omega
                  case c3 => have := KL.out; omega
                  case c4 => have := HM.out.size; simp; omega
                  intro v2 w3 hown hgrow hat
                  have hG : Mods (Value.slice A (kept (L.take j)).length c).ownBlock.toList wr w3 := ((Mods.refl _ wr).alloc _).grown hgrow (fun x hx => Or.inl (by rw [hx]; simp))
                  have hne : b + 2 ∉ (Value.slice A (kept (L.take j)).length c).ownBlock.toList := by
                    intro h
                    have := (HO.out.lt (b + 2) (by simpa using h)).1
                    have := HS.out
                    omega
                  have hv3 := hG.heap HV.out hne
                  have c0 : w3.cell? ⟨b + 2, 0, none⟩ = some (.bool false) := by rw [cell_of_row _ _ _ _ _ _ hv3]; rfl
                  have c1 : w3.cell? ⟨b + 2, 1, none⟩ = some (.slice A (kept (L.take j)).length c) := by rw [cell_of_row _ _ _ _ _ _ hv3]; rfl
                  have k1 : w3.frozen? ⟨b + 2, 1, none⟩ = false := frozen_of_row _ _ _ _ _ hv3
                  have HG3 := Lib.hid ((HM.out.alloc _).grown hgrow (fun x hx => Or.inr (HO.out.lt x hx).1))
                  have HV3 := Lib.hid hv3
                  obtain ⟨A2, c2, rfl⟩ := own_ctor hown
                  have HN := Lib.hid hown
                  clear hown hgrow hat hG hne hv3
                  go_wp2_with fail
                  refine ⟨⟨s.size + 1, s.size + 1, j + 1, HNX.out, rfl, rfl, HX.out, HG3.out.setCell (Or.inl (by simp)) _, _, (by rw [heap_setCell_same _ _ _ _ _ _ HV3.out]; rfl), ?_⟩, by simp only [intOf]; omega⟩
                  refine ownsRow_set ?_ ?_ _
                  · rw [KS.out, ek]; simpa using HN.out
                  · intro h
                    have := (HN.out.lt (b + 2) h).1
                    have := HS.out
                    omega
            · have e3 : (p.toList == [46, 46]) = false := by unfold fineP at hfine; simp at hfine; simpa using hfine.1
              have e4 : nameOk p = false := by unfold fineP at hfine; simp at hfine; exact hfine.2
              have ef : fit L = false := FN.out (by rw [FS.out, HF.out, ek]; unfold fineP; rw [e3, e4]; rfl)
              have d0 : wr.cell? ⟨b, 0, none⟩ = some (.bool false) := by rw [cell_of_row _ _ _ _ _ _ HB0'.out]; rfl
              have d1 : wr.cell? ⟨b, 1, none⟩ = some (.slice none 0 0) := by rw [cell_of_row _ _ _ _ _ _ HB0'.out]; rfl
              have g0 : wr.cell? ⟨b + 1, 0, none⟩ = some (.bool false) := by rw [cell_of_row _ _ _ _ _ _ HB1'.out]; rfl
              have g1 : wr.cell? ⟨b + 1, 1, none⟩ = some (.slice none 0 0) := by rw [cell_of_row _ _ _ _ _ _ HB1'.out]; rfl
              have k0 : wr.frozen? ⟨b, 0, none⟩ = false := frozen_of_row _ _ _ _ _ HB0'.out
              have k1 : wr.frozen? ⟨b, 1, none⟩ = false := frozen_of_row _ _ _ _ _ HB0'.out
              simp only [e4, Bool.false_eq_true, if_false]
              go_wp2_with fail
              all_goals refine bodyPost_ret (v := .tuple #[.agg #[.bool false, .slice none 0 0], .int .i64 51]) (by simp [results, Tryz.results62, go_sem, d0, d1]) rfl ?_
              all_goals try rw [ef]
              all_goals exact ⟨_, rfl, ((HW.out.trans HM.out (by intro x hx; simp at hx; right; omega)).setCell (Or.inr (by show w.heap.size ≤ b; omega)) _).setCell (Or.inr (by show w.heap.size ≤ b; omega)) _, World.ownsRow_nil _ _ _ _⟩
end Go.Proofs.YtmcekhgmmocajaaGreatDoor
namespace Go.Proofs.YtmcekhgmmocajaaGreatDoor
open Go.RowKit Me

namespace Me
theorem step_app {P : Program} {ops : Array Oper} {o : Oper} {a : Act} {w : World} {K : Act → World → Prop} {Q : Exit → Act → World → Prop} {E : Prop} (hgd : o.guard = none) (s x : Operand) (t tx : TypeId)
    (ho : o.op = .call { callee := .builtin .append, args := #[s, x], argTypes := #[t, tx] })
    (base : Nat) (e : TypeId) (i : TypeInfo) (z : Value) (size bytes : Nat) (ht : P.underlying t = some (.slice e)) (hi : P.info? e = some i) (hz : i.zero = some z)
    (hsize : i.size = size) (hby : i.bytes = bytes) (hzs : z.cells.size = size)
    (v : Value) (n : Nat) (xs : List Value) (hs : a.eval s = v) (hown : w.ownsRow base e size v n xs)
    (vx : Value) (m : Nat) (news : List Value) (hx : a.eval x = vx) (hsrc : Src P size tx vx m news w)
    (h63 : n + m ≤ maxLen) (hbytes : (n + m) * bytes ≤ 140737488355328) (hbase : base ≤ w.heap.size)
    (h : ∀ v' w', w'.ownsRow base e size v' (n + m) (xs ++ news) → w.grownBy w' v.ownBlock → (v'.ownBlock = v.ownBlock ∨ v'.ownBlock = some w.heap.size) → K (a.put o.dst v') w') :
    if Region.wanted o (yielded ops a.tmps) = true then Oper.wp P o a w K Q else E := by
  have hw : Region.wanted o (yielded ops a.tmps) = true := by simp [Region.wanted, hgd]
  rw [if_pos hw]
  obtain ⟨v', w', hr, h2, h3, h4⟩ := run_app (P := P) w base t tx o.type e i z size bytes ht hi hz hsize hby hzs v n xs hown vx m news hsrc h63 hbytes hbase
  unfold Oper.wp execOp
  simp only [ho, resolve, invoke, builtin, Sem.run_bind, Sem.run_pure, Result.andThen_ok, List.map_toArray, List.map_cons, List.map_nil, hs, hx, hr]
  exact h v' w' h2 h3 h4
end Me
theorem src_drew {P : Program} {tx e' : TypeId} (hk : P.underlying tx = some (.slice e')) (w : World) (x : Value) (t : TypeId) (h1 : x.oneCell' = true) : Src P 1 tx (.slice (some ⟨w.heap.size, 0, none⟩) 1 1) 1 [x] ((w.alloc (.cells #[x] t)).drew) :=
  Src.ofSlice _ hk _ _ _ _ rfl (cell_one_new _ _ _) (by intro u hu; simp at hu; subst hu; exact h1)
def RelRr (r : Bool) (L : List ByteArray) (b2 : Nat) (w1 : World) (i : Value) (wr : World) : Prop :=
  ∃ k : Nat, k ≤ L.length ∧ i = .int .i64 (k : Int) ∧ Mods [b2] w1 wr ∧ ∃ v, wr.heap[b2]? = some (.cells #[.bool r, v] 103 (0, 0)) ∧
    wr.ownsRow w1.heap.size 9 1 v (reduce r (L.take k)).length ((reduce r (L.take k)).map Value.string)
set_option maxRecDepth 100000 in
set_option maxHeartbeats 4000000 in
theorem rreduced_any (r : Bool) (L : List ByteArray) (v : Value) (w : World) (hv : Rd w v (L.map Value.string)) (hl : L.length ≤ 4294967290) :
    Calls Tryz.prog 97 #[.agg #[.bool r, v]] w fun e w' => ∃ u, e = .returned (.agg #[.bool r, u]) ∧ Mods [] w w' ∧ w'.ownsRow w.heap.size 9 1 u (reduce r L).length ((reduce r L).map Value.string) := by
  obtain ⟨i0, hi, hz0, hz1, hz2⟩ := info_parts info9
  have HV := Lib.hid (fun w' (hw : Mods [] w w') => hv.mods hw (by simp))
  obtain ⟨A, c, rfl, -⟩ := hv
  rw [List.length_map] at *
  have HWa := Lib.hid ((((Mods.refl [] w).alloc (.cells #[.bool r, .slice A L.length c] 103)).alloc (.cells #[.bool false, .slice none 0 0] 103)).alloc (.cells #[.bool r, .slice none 0 0] 103))
  have HB0a : Hid ((((w.alloc (.cells #[.bool r, .slice A L.length c] 103)).alloc (.cells #[.bool false, .slice none 0 0] 103)).alloc (.cells #[.bool r, .slice none 0 0] 103)).heap[w.heap.size]? = some (.cells #[.bool r, .slice A L.length c] 103 (0, 0))) := Lib.hid (by
    show (((w.heap.push _).push _).push _)[_]? = _
    simp [Array.getElem?_push, Array.getElem_push]; try omega)
  have HB1a : Hid ((((w.alloc (.cells #[.bool r, .slice A L.length c] 103)).alloc (.cells #[.bool false, .slice none 0 0] 103)).alloc (.cells #[.bool r, .slice none 0 0] 103)).heap[w.heap.size + 1]? = some (.cells #[.bool false, .slice none 0 0] 103 (0, 0))) := Lib.hid (by
    show (((w.heap.push _).push _).push _)[_]? = _
    simp [Array.getElem_push])
  have HB2a : Hid ((((w.alloc (.cells #[.bool r, .slice A L.length c] 103)).alloc (.cells #[.bool false, .slice none 0 0] 103)).alloc (.cells #[.bool r, .slice none 0 0] 103)).heap[w.heap.size + 2]? = some (.cells #[.bool r, .slice none 0 0] 103 (0, 0))) := Lib.hid (by
    show (((w.heap.push _).push _).push _)[_]? = _
    simp [Array.getElem_push])
  have hSa : (((w.alloc (.cells #[.bool r, .slice A L.length c] 103)).alloc (.cells #[.bool false, .slice none 0 0] 103)).alloc (.cells #[.bool r, .slice none 0 0] 103)).heap.size = w.heap.size + 3 := by simp
  have HS := Lib.hid hSa
  clear hSa
  go_enter Tryz.func97, Tryz.ntmps97
  go_wp2_with fail
  generalize hw1 : ((w.alloc (.cells #[.bool r, .slice A L.length c] 103)).alloc (.cells #[.bool false, .slice none 0 0] 103)).alloc (.cells #[.bool r, .slice none 0 0] 103) = w1 at *
  clear hw1
  generalize hbb : w.heap.size = b at *
  go_loopw [4] (fun i wr => RelRr r L (b + 2) w1 i wr) (fun i _ => L.length - (intOf i).toNat)
  case atStart => exact ⟨0, by omega, rfl, Mods.refl _ _, _, HB2a.out, World.ownsRow_nil _ _ _ _⟩
  case round =>
    obtain ⟨k, hk, rfl, hm, vq, hq, ho⟩ := hrel
    obtain ⟨Aq, cq, rfl⟩ := own_ctor ho
    have HM := Lib.hid hm
    have HQ := Lib.hid hq
    have HO := Lib.hid ho
    have HMW : Hid (Mods [] w wr) := Lib.hid (HWa.out.trans hm (by intro x hx; simp at hx; right; omega))
    have HB0 := Lib.hid (hm.heap HB0a.out (by simp))
    have HB1 := Lib.hid (hm.heap HB1a.out (by simp))
    have a0 : wr.cell? ⟨b, 0, none⟩ = some (.bool r) := by rw [cell_of_row _ _ _ _ _ _ HB0.out]; rfl
    have a1 : wr.cell? ⟨b, 1, none⟩ = some (.slice A L.length c) := by rw [cell_of_row _ _ _ _ _ _ HB0.out]; rfl
    have q0 : wr.cell? ⟨b + 2, 0, none⟩ = some (.bool r) := by rw [cell_of_row _ _ _ _ _ _ hq]; rfl
    have q1 : wr.cell? ⟨b + 2, 1, none⟩ = some (.slice Aq (reduce r (L.take k)).length cq) := by rw [cell_of_row _ _ _ _ _ _ hq]; rfl
    have KL0 := reduce_length r L k
    rcases Nat.lt_or_ge k L.length with hlt | hge
    · obtain ⟨p, hp⟩ : ∃ p, L[k]? = some p := ⟨_, List.getElem?_eq_getElem hlt⟩
      obtain ⟨A', c', e9, -, -, h3⟩ := HV.out wr HMW.out
      obtain ⟨rfl, -, -⟩ := Value.slice.inj e9
      obtain ⟨g, off, rfl, cp⟩ := h3 k (.string p) (by rw [List.getElem?_map, hp]; rfl)
      have KL : Hid ((reduce r (L.take k)).length ≤ 4294967290) := Lib.hid (by omega)
      have KS := Lib.hid (reduce_step r L k p hp)
      have f1 : wr.frozen? ⟨b + 2, 1, none⟩ = false := frozen_of_row _ _ _ _ _ hq
      clear hm hq ho e9 h3 hp
      generalize hqe : reduce r (L.take k) = q at *
      cases e1 : p.toList == [46, 46]
      · have HQ2 := Lib.hid (KS.out.trans (red_app (r := r) (q := q) e1))
        clear KS
        have hM2 := (Mods.refl [] wr).alloc (.cells #[.string p] 9)
        have q1a : (wr.alloc (.cells #[.string p] 9)).cell? ⟨b + 2, 1, none⟩ = some (.slice Aq q.length cq) := by rw [hM2.cell (World.block_lt_of_cell? _ _ q1) (by simp)]; exact q1
        clear hM2
        clear hqe
        go_wp2_with fail
        have HOA : Hid (((wr.alloc (.cells #[.string p] 9)).drew).ownsRow w1.heap.size 9 1 (.slice Aq q.length cq) q.length (q.map Value.string)) := Lib.hid (HO.out.alloc _)
        have hsz1 : w1.heap.size ≤ ((wr.alloc (.cells #[.string p] 9)).drew).heap.size := by have := HM.out.size; show _ ≤ (wr.alloc _).heap.size; simp; omega
        go_region_law (refine step_app rfl _ _ 77 77 rfl w1.heap.size 9 i0 (.string ⟨#[]⟩) 1 16 Tryz.underlying77 hi hz0 hz1 hz2 rfl (.slice Aq q.length cq) q.length (q.map Value.string) rfl HOA.out (.slice (some ⟨wr.heap.size, 0, none⟩) 1 1) 1 [.string p] rfl (src_drew Tryz.underlying77 _ _ _ rfl) (by have := KL.out; unfold maxLen; omega) (by have := KL.out; omega) hsz1 ?_; intro v2 w4 hown hgrow hat; have hG := (((Mods.refl (Value.slice Aq q.length cq).ownBlock.toList wr).alloc (.cells #[.string p] 9)).drew).grown hgrow (fun x hx => Or.inl (by rw [hx]; simp)); have hne : b + 2 ∉ (Value.slice Aq q.length cq).ownBlock.toList := (fun h => by have h1 := (HO.out.lt (b + 2) (by simpa using h)).1; have h2 := HS.out; omega); have hv4 := hG.heap HQ.out hne; have q0' : w4.cell? ⟨b + 2, 0, none⟩ = some (.bool r) := (by rw [cell_of_row _ _ _ _ _ _ hv4]; rfl); have q1' : w4.cell? ⟨b + 2, 1, none⟩ = some (.slice Aq q.length cq) := (by rw [cell_of_row _ _ _ _ _ _ hv4]; rfl); have f1' : w4.frozen? ⟨b + 2, 1, none⟩ = false := frozen_of_row _ _ _ _ _ hv4; have HG4 := Lib.hid ((((HM.out.alloc (.cells #[.string p] 9)).drew)).grown hgrow (fun x hx => Or.inr (HO.out.lt x hx).1)); have HV4 := Lib.hid hv4; obtain ⟨A2, c2, rfl⟩ := own_ctor hown; have HN := Lib.hid hown; clear hown hgrow hat hG hne hv4)
        all_goals go_wp2_with fail
        all_goals refine ⟨⟨k + 1, by omega, rfl, HG4.out.setCell (Or.inl (by simp)) _, _, (by rw [heap_setCell_same _ _ _ _ _ _ HV4.out]; rfl), ?_⟩, by simp only [intOf]; omega⟩
        all_goals refine ownsRow_set ?_ ?_ _
        all_goals first
          | (rw [HQ2.out]; simpa using HN.out)
          | (intro h; have h1 := (HN.out.lt (b + 2) h).1; have h2 := HS.out; omega)
      · have hpd : p = ⟨#[46, 46]⟩ := data_inj (by
          have := eq_of_beq e1
          rwa [Lib.toList_data] at this)
        cases hg : q.getLast? with
        | none =>
          obtain rfl := List.getLast?_eq_none_iff.1 hg
          have HGL : Hid (∀ l, ([] : List ByteArray).getLast? = some l → (l.toList == [46, 46]) = true) := Lib.hid (fun l h => by cases h)
          clear hg hqe
          simp only [List.length_nil] at HO HQ KL q1 KL0
          cases r
          · have HQ2 := Lib.hid (KS.out.trans (red_none (r := false) e1 HGL.out))
            clear KS
            go_wp2_with (at_builtin; go_must (refine wpList_app _ rfl _ _ 77 77 rfl w1.heap.size 9 i0 (.string ⟨#[]⟩) 1 16 Tryz.underlying77 hi hz0 hz1 hz2 rfl _ _ _ rfl (HO.out.alloc _) _ 1 [.string ⟨#[46, 46]⟩] rfl ?c1 ?c2 ?c3 ?c4 ?_))
            case c1 => exact src_one Tryz.underlying77 _ _ _ rfl
            case c2 => have := KL.out; unfold maxLen; omega
            case c3 => have := KL.out; omega
            case c4 => have := HM.out.size; simp; omega
            intro v2 w4 hown hgrow hat
            have hG := ((Mods.refl (Value.slice Aq 0 cq).ownBlock.toList wr).alloc (.cells #[.string ⟨#[46, 46]⟩] 9)).grown hgrow (fun x hx => Or.inl (by rw [hx]; simp))
            have hne : b + 2 ∉ (Value.slice Aq 0 cq).ownBlock.toList := (fun h => by have h1 := (HO.out.lt (b + 2) (by simpa using h)).1; have h2 := HS.out; omega)
            have hv4 := hG.heap HQ.out hne
            have q0' : w4.cell? ⟨b + 2, 0, none⟩ = some (.bool false) := (by rw [cell_of_row _ _ _ _ _ _ hv4]; rfl)
            have q1' : w4.cell? ⟨b + 2, 1, none⟩ = some (.slice Aq 0 cq) := (by rw [cell_of_row _ _ _ _ _ _ hv4]; rfl)
            have f1' : w4.frozen? ⟨b + 2, 1, none⟩ = false := frozen_of_row _ _ _ _ _ hv4
            have HG4 := Lib.hid ((HM.out.alloc (.cells #[.string ⟨#[46, 46]⟩] 9)).grown hgrow (fun x hx => Or.inr (HO.out.lt x hx).1))
            have HV4 := Lib.hid hv4
            obtain ⟨A2, c2, rfl⟩ := own_ctor hown
            have HN := Lib.hid hown
            clear hown hgrow hat hG hne hv4
            go_wp2_with fail
            refine ⟨⟨k + 1, by omega, rfl, HG4.out.setCell (Or.inl (by simp)) _, _, (by rw [heap_setCell_same _ _ _ _ _ _ HV4.out]; rfl), ?_⟩, by simp only [intOf]; omega⟩
            refine ownsRow_set ?_ ?_ _
            · rw [HQ2.out, hpd]; simpa using HN.out
            · intro h; have h1 := (HN.out.lt (b + 2) h).1; have h2 := HS.out; omega
          · have HQ2 := Lib.hid (KS.out.trans (red_none (r := true) e1 HGL.out))
            clear KS
            go_wp2_with fail
            refine ⟨⟨k + 1, by omega, rfl, HM.out, _, HQ.out, ?_⟩, by simp only [intOf]; omega⟩
            rw [HQ2.out]; simpa using HO.out
        | some l =>
          obtain ⟨q', rfl⟩ := List.getLast?_eq_some_iff.1 hg
          obtain ⟨g2, rfl⟩ : ∃ g, Aq = some ⟨g, 0, none⟩ := by
            rcases ownsRow_form HO.out with ⟨e, h1, _⟩ | ⟨g, cap, e, _⟩
            · simp at h1
            · cases e; exact ⟨g, rfl⟩
          have c3 : wr.cell? ⟨g2, q'.length, none⟩ = some (.string l) := by
            have := HO.out.cells (g := g2) rfl q'.length (.string l) (by rw [List.getElem?_map]; simp)
            rw [Addr.add_lit] at this
            simpa using this
          have hlc : q'.length + 1 ≤ cq := by
            rcases ownsRow_form HO.out with ⟨e, _⟩ | ⟨g, cap, e, h1, _⟩
            · cases e
            · cases e; simpa using h1
          have hlen : (q' ++ [l]).length = q'.length + 1 := by simp
          rw [hlen] at HO HQ KL q1 KL0
          have hkl := KL.out
          cases e3 : l.toList == [46, 46]
          · have HQ2 := Lib.hid (KS.out.trans (red_drop e1 hg e3))
            clear KS hg hqe
            generalize hm : q'.length = m at *
            go_wp2_with fail
            refine ⟨⟨k + 1, by omega, rfl, HM.out.setCell (Or.inl (by simp)) _, _, (by rw [heap_setCell_same _ _ _ _ _ _ HQ.out]; rfl), ?_⟩, by simp only [intOf]; omega⟩
            rw [HQ2.out]
            refine ownsRow_set ?_ ?_ _
            · have hh := ownsRow_cut HO.out m (by omega)
              simpa [hm] using hh
            · intro h
              have h1 := (HO.out.lt (b + 2) h).1
              have h2 := HS.out
              omega
          · have HGL : Hid (∀ x, (q' ++ [l]).getLast? = some x → (x.toList == [46, 46]) = true) := Lib.hid (fun x h => by rw [hg] at h; cases h; exact e3)
            clear hg hqe
            generalize hm : q'.length = m at *
            cases r
            · have HQ2 := Lib.hid (KS.out.trans (red_none (r := false) e1 HGL.out))
              clear KS
              go_wp2_with (at_builtin; go_must (refine wpList_app _ rfl _ _ 77 77 rfl w1.heap.size 9 i0 (.string ⟨#[]⟩) 1 16 Tryz.underlying77 hi hz0 hz1 hz2 rfl _ _ _ rfl (HO.out.alloc _) _ 1 [.string ⟨#[46, 46]⟩] rfl ?c1 ?c2 ?c3 ?c4 ?_))
              case c1 => exact src_one Tryz.underlying77 _ _ _ rfl
              case c2 => have := KL.out; unfold maxLen; omega
              case c3 => have := KL.out; omega
              case c4 => have := HM.out.size; simp; omega
              intro v2 w4 hown hgrow hat
              have hG := ((Mods.refl (Value.slice (some ⟨g2, 0, none⟩) (m + 1) cq).ownBlock.toList wr).alloc (.cells #[.string ⟨#[46, 46]⟩] 9)).grown hgrow (fun x hx => Or.inl (by rw [hx]; simp))
              have hne : b + 2 ∉ (Value.slice (some ⟨g2, 0, none⟩) (m + 1) cq).ownBlock.toList := (fun h => by have h1 := (HO.out.lt (b + 2) (by simpa using h)).1; have h2 := HS.out; omega)
              have hv4 := hG.heap HQ.out hne
              have q0' : w4.cell? ⟨b + 2, 0, none⟩ = some (.bool false) := (by rw [cell_of_row _ _ _ _ _ _ hv4]; rfl)
              have q1' : w4.cell? ⟨b + 2, 1, none⟩ = some (.slice (some ⟨g2, 0, none⟩) (m + 1) cq) := (by rw [cell_of_row _ _ _ _ _ _ hv4]; rfl)
              have f1' : w4.frozen? ⟨b + 2, 1, none⟩ = false := frozen_of_row _ _ _ _ _ hv4
              have HG4 := Lib.hid ((HM.out.alloc (.cells #[.string ⟨#[46, 46]⟩] 9)).grown hgrow (fun x hx => Or.inr (HO.out.lt x hx).1))
              have HV4 := Lib.hid hv4
              obtain ⟨A2, c2, rfl⟩ := own_ctor hown
              have HN := Lib.hid hown
              clear hown hgrow hat hG hne hv4
              go_wp2_with fail
              refine ⟨⟨k + 1, by omega, rfl, HG4.out.setCell (Or.inl (by simp)) _, _, (by rw [heap_setCell_same _ _ _ _ _ _ HV4.out]; rfl), ?_⟩, by simp only [intOf]; omega⟩
              refine ownsRow_set ?_ ?_ _
              · rw [HQ2.out, hpd]; simpa [hm] using HN.out
              · intro h; have h1 := (HN.out.lt (b + 2) h).1; have h2 := HS.out; omega
            · have HQ2 := Lib.hid (KS.out.trans (red_none (r := true) e1 HGL.out))
              clear KS
              go_wp2_with fail
              refine ⟨⟨k + 1, by omega, rfl, HM.out, _, HQ.out, ?_⟩, by simp only [intOf]; omega⟩
              rw [HQ2.out]; simpa [hm] using HO.out
    · obtain rfl : k = L.length := by omega
      rw [List.take_length] at HO HQ q1
      have d0 : wr.cell? ⟨b + 1, 0, none⟩ = some (.bool false) := by rw [cell_of_row _ _ _ _ _ _ HB1.out]; rfl
      have d1 : wr.cell? ⟨b + 1, 1, none⟩ = some (.slice none 0 0) := by rw [cell_of_row _ _ _ _ _ _ HB1.out]; rfl
      have k0 : wr.frozen? ⟨b + 1, 0, none⟩ = false := frozen_of_row _ _ _ _ _ HB1.out
      have k1 : wr.frozen? ⟨b + 1, 1, none⟩ = false := frozen_of_row _ _ _ _ _ HB1.out
      clear hm hq ho
      go_wp2_with fail
      refine bodyPost_ret (v := .agg #[.bool r, .slice Aq (reduce r L).length cq]) (by simp [results, Tryz.results97, go_sem, d0, d1]) rfl ?_
      refine ⟨_, rfl, (HMW.out.setCell (Or.inr (by show w.heap.size ≤ b + 1; omega)) _).setCell (Or.inr (by show w.heap.size ≤ b + 1; omega)) _, ownsRow_set (ownsRow_set (ownsRow_base HO.out (by rw [HS.out]; omega)) ?_ _) ?_ _⟩
      · intro h; have h1 := (HO.out.lt (b + 1) h).1; have h2 := HS.out; omega
      · intro h; have h1 := (HO.out.lt (b + 1) h).1; have h2 := HS.out; omega
end Go.Proofs.YtmcekhgmmocajaaGreatDoor
