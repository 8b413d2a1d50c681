/- names.Split, walked. | names.Join, walked. | names.Clean, walked. -/
import Derived.Test.YtmcekhgmmocajaaGreatDoorNp
import Derived.Test.YtmcekhgmmocajaaGreatDoorWu
namespace Go.Proofs.YtmcekhgmmocajaaGreatDoor
open Go.RowKit Me

/-- The loop of Split behind i pieces. -/
def RelS (L : List ByteArray) (b1 : Nat) (r : Bool) (w1 : World) (i : Value) (wr : World) : Prop :=
  ∃ k : Nat, k ≤ L.length ∧ i = .int .i64 (k : Int) ∧ fit (L.take k) = true ∧ Mods [b1] w1 wr ∧
    ∃ v, wr.heap[b1]? = some (.cells #[.bool r, v] 103 (0, 0)) ∧ wr.ownsRow w1.heap.size 9 1 v (kept (L.take k)).length ((kept (L.take k)).map Value.string)

theorem info9 : (Tryz.prog.info? 9).map (fun i => (i.zero, i.size, i.bytes)) = some (some (.string ⟨#[]⟩), 1, 16) := by kernel_rfl
set_option maxRecDepth 100000 in
set_option maxHeartbeats 1000000 in
theorem nsplit_any (s : ByteArray) (w : World) (hs : s.size < 4294967281) (hT : Tabs w) :
    Calls Tryz.prog 84 #[.string s] w fun e w' => ∃ v, e = .returned (.tuple #[.agg #[.bool (fit (pieces s) && Lib.hasPrefix s.data.toList [47]), v], .int .i64 (if fit (pieces s) then 0 else 51)]) ∧ Mods [] w w' ∧
      w'.ownsRow w.heap.size 9 1 v (if fit (pieces s) then (kept (pieces s)).length else 0) (if fit (pieces s) then (kept (pieces s)).map Value.string else []) := by
  obtain ⟨i0, hi, hz0, hz1, hz2⟩ := info_parts info9
  have H1 := Lib.hid (fun w' => Tryz.strings_HasPrefix s ⟨#[47]⟩ w')
  obtain ⟨m, hm⟩ := hT.m
  have H2 := Lib.hid (fun w' hw => Tryz.strings_Split s ⟨#[47]⟩ m w' hs hw (by decide))
  have hl := pieces_length s
  have hsz := fun p hp => Nat.lt_of_le_of_lt (pieces_size s p hp) hs
  have hcb := Lib.countB_le ⟨#[47]⟩ (by decide) _ s (Nat.le_refl _)
  rw [show Lib.splitB ⟨#[47]⟩ 0 (Lib.countB s ⟨#[47]⟩) s = pieces s from rfl, ← hl] at H2
  generalize pieces s = L at *
  have HM := Lib.hid (fun w' (hw : Below w.heap.size w w') => (hw.cell (p := ⟨0, 0, none⟩) (by have := hT.three; show 0 < w.heap.size; omega)).trans hm)
  have HT := Lib.hid hT
  have HL := Lib.hid hsz
  have hL : L.length ≤ 4294967290 := by omega
  generalize Lib.hasPrefix s.data.toList [47] = r at *
  clear hs hT hm hl hsz hcb
  go_enter Tryz.func84, Tryz.ntmps84
  go_wp2_with (first | (refine (H1.out _).mono ?_; rintro e w1 ⟨rfl, rfl⟩))
  refine (H2.out _ ?_).mono ?_
  · exact HM.out _ (((Below.refl _ _).alloc (Nat.le_refl _) _).alloc (by simp) _)
  rintro e w1 ⟨rfl, hw1⟩
  have hB : Mods [] w w1 := by rw [hw1]; exact (((Mods.refl _ _).alloc _).alloc _).alloc _
  have hb0 : w1.heap[w.heap.size]? = some (.cells #[.bool false, .slice none 0 0] 103 (0, 0)) := by rw [hw1]; show (((w.heap.push _).push _).push _)[_]? = _; simp [Array.getElem?_push, Array.getElem_push]; try omega
  have hb1 : w1.heap[w.heap.size + 1]? = some (.cells #[.bool r, .slice none 0 0] 103 (0, 0)) := by rw [hw1]; show (((w.heap.push _).push _).push _)[_]? = _; simp [Array.getElem_push]
  have hb2 : w1.heap[w.heap.size + 2]? = some (.cells (L.map Value.string).toArray 9 (0, 0)) := by rw [hw1]; show (((w.heap.push _).push _).push _)[_]? = _; simp [Array.getElem_push]
  have hsz : w1.heap.size = w.heap.size + 3 := by rw [hw1]; simp
  have hz : ((w.alloc (Obj.cells #[Value.bool false, Value.slice none 0 0] 103)).alloc (Obj.cells #[Value.bool r, Value.slice none 0 0] 103)).heap.size = w.heap.size + 2 := by simp
  rw [hz]
  have HB := Lib.hid hB
  have HB0 := Lib.hid hb0
  have HB1 := Lib.hid hb1
  have HB2 := Lib.hid hb2
  have HS := Lib.hid hsz
  have hw3 : 3 ≤ w.heap.size := HT.out.three
  clear hw1 hB hb0 hb1 hb2 hsz hz
  generalize hbb : w.heap.size = b at *
  go_wp2_with fail
  go_loopw [13] (fun i wr => RelS L (b + 1) r w1 i wr) (fun i _ => L.length - (intOf i).toNat)
  case atStart => exact ⟨0, by omega, rfl, rfl, Mods.refl _ _, _, HB1.out, World.ownsRow_nil _ _ _ _⟩
  case round =>
    obtain ⟨k, hk, rfl, hf, hm, v, hv, ho⟩ := hrel
    obtain ⟨A, c, rfl⟩ := own_ctor ho
    have HO := Lib.hid ho
    have HM := Lib.hid hm
    have HV := Lib.hid hv
    have HF := Lib.hid hf
    have c0 : wr.cell? ⟨b + 1, 0, none⟩ = some (.bool r) := by rw [cell_of_row _ _ _ _ _ _ hv]; rfl
    have c1 : wr.cell? ⟨b + 1, 1, none⟩ = some (.slice A (kept (L.take k)).length c) := by rw [cell_of_row _ _ _ _ _ _ hv]; rfl
    have hb0' : wr.heap[b]? = some (.cells #[.bool false, .slice none 0 0] 103 (0, 0)) := hm.heap HB0.out (by simp)
    have d0 : wr.cell? ⟨b, 0, none⟩ = some (.bool false) := by rw [cell_of_row _ _ _ _ _ _ hb0']; rfl
    have d1 : wr.cell? ⟨b, 1, none⟩ = some (.slice none 0 0) := by rw [cell_of_row _ _ _ _ _ _ hb0']; rfl
    have k0 : wr.frozen? ⟨b, 0, none⟩ = false := frozen_of_row _ _ _ _ _ hb0'
    have k1 : wr.frozen? ⟨b, 1, none⟩ = false := frozen_of_row _ _ _ _ _ hb0'
    have HBR := Lib.hid hb0'
    clear ho hm hf
    rcases Nat.lt_or_ge k L.length with hlt | hge
    · obtain ⟨p, hp⟩ : ∃ p, L[k]? = some p := ⟨_, List.getElem?_eq_getElem hlt⟩
      have c2 : wr.cell? ⟨b + 2, k, none⟩ = some (.string p) := by rw [cell_of_row _ _ _ _ _ _ (HM.out.heap HB2.out (by simp))]; simp [hp]
      have hM2 := Lib.hid (Mods.trans HB.out HM.out (by intro x hx; simp at hx; right; omega))
      have HC := Lib.hid (check_any p wr (HL.out p (List.mem_of_getElem? hp)) (HT.out.below (hM2.out.toBelow (by simp)) (by rw [hbb]; omega)))
      have KS := Lib.hid (kept_step L k p hp)
      have FS := Lib.hid (fit_step L k p hp)
      have FN := Lib.hid (fit_not L (k + 1))
      have KL : Hid ((kept (L.take k)).length ≤ 4294967290) := Lib.hid (Nat.le_trans (List.length_filter_le _ _) (by rw [List.length_take]; omega))
      cases e1 : p.toList.isEmpty
      · cases e2 : p.toList == [46]
        · have ek : skipP p = false := by unfold skipP; rw [e1, e2]; rfl
          cases e3 : p.toList == [46, 46]
          · go_wp2_with fail
            refine HC.out.mono ?_; rintro e w2 ⟨rfl, hw2⟩
            cases e4 : nameOk p
            · skip
              have ef : fit L = false := FN.out (by rw [FS.out, HF.out, ek]; unfold fineP; rw [e3, e4]; rfl)
              have hbw : w2.heap[b]? = some (.cells #[.bool false, .slice none 0 0] 103 (0, 0)) := (hw2.block b (Array.getElem?_eq_some_iff.1 HBR.out).1).trans HBR.out
              have d0 : w2.cell? ⟨b, 0, none⟩ = some (.bool false) := by rw [cell_of_row _ _ _ _ _ _ hbw]; rfl
              have d1 : w2.cell? ⟨b, 1, none⟩ = some (.slice none 0 0) := by rw [cell_of_row _ _ _ _ _ _ hbw]; rfl
              have k0 : w2.frozen? ⟨b, 0, none⟩ = false := frozen_of_row _ _ _ _ _ hbw
              have k1 : w2.frozen? ⟨b, 1, none⟩ = false := frozen_of_row _ _ _ _ _ hbw
              have HW2 := Lib.hid (hM2.out.trans (Mods.below hw2 []) (by simp))
              clear hbw hw2
              go_wp2_with fail
              all_goals refine bodyPost_ret (v := .tuple #[.agg #[.bool false, .slice none 0 0], .int .i64 51]) (by simp [results, Tryz.results84, go_sem, d0, d1]) rfl ?_
              all_goals exact ⟨_, rfl, (HW2.out.setCell (Or.inr (by show w.heap.size ≤ b; omega)) _).setCell (Or.inr (by show w.heap.size ≤ b; omega)) _, World.ownsRow_nil _ _ _ _⟩
            · skip
              have hbl := fun {j o} (h : wr.heap[j]? = some o) => (hw2.block j (Array.getElem?_eq_some_iff.1 h).1).trans h
              have HM3 := Lib.hid (HM.out.trans (Mods.below hw2 []) (by simp))
              have HO2 := Lib.hid (ownsRow_mods HO.out (Mods.below hw2 []) (by simp))
              have hv2 : w2.heap[b + 1]? = some (.cells #[.bool r, .slice A (kept (L.take k)).length c] 103 (0, 0)) := hbl HV.out
              have c0 : w2.cell? ⟨b + 1, 0, none⟩ = some (.bool r) := by rw [cell_of_row _ _ _ _ _ _ hv2]; rfl
              have c1 : w2.cell? ⟨b + 1, 1, none⟩ = some (.slice A (kept (L.take k)).length c) := by rw [cell_of_row _ _ _ _ _ _ hv2]; rfl
              have HV2 := Lib.hid hv2
              clear hv2
              go_wp2_with (at_builtin; go_must (refine wpList_app _ rfl _ _ 77 77 rfl w1.heap.size 9 i0 (.string ⟨#[]⟩) 1 16 Tryz.underlying77 hi hz0 hz1 hz2 rfl _ _ _ rfl (HO2.out.alloc _) _ 1 [.string p] rfl ?c1 ?c2 ?c3 ?c4 ?_))
              case c1 => exact src_one Tryz.underlying77 _ _ _ rfl
              case c2 => have := KL.out; unfold maxLen; omega
              case c3 => have := KL.out; omega
              case c4 => have := HM3.out.size; simp; omega
              intro v2 w3 hown hgrow hat
              have hG : Mods (Value.slice A (kept (L.take k)).length c).ownBlock.toList w2 w3 := ((Mods.refl _ w2).alloc _).grown hgrow (fun x hx => Or.inl (by rw [hx]; simp))
              have hne : b + 1 ∉ (Value.slice A (kept (L.take k)).length c).ownBlock.toList := by
                intro h
                have := (HO2.out.lt (b + 1) (by simpa using h)).1
                have := HS.out
                omega
              have hv3 := hG.heap HV2.out hne
              have c0 : w3.cell? ⟨b + 1, 0, none⟩ = some (.bool r) := by rw [cell_of_row _ _ _ _ _ _ hv3]; rfl
              have c1 : w3.cell? ⟨b + 1, 1, none⟩ = some (.slice A (kept (L.take k)).length c) := by rw [cell_of_row _ _ _ _ _ _ hv3]; rfl
              have k1 : w3.frozen? ⟨b + 1, 1, none⟩ = false := frozen_of_row _ _ _ _ _ hv3
              have HG3 := Lib.hid ((HM3.out.alloc _).grown hgrow (fun x hx => Or.inr (HO2.out.lt x hx).1))
              have HV3 := Lib.hid hv3
              obtain ⟨A2, c2, rfl⟩ := own_ctor hown
              have HN := Lib.hid hown
              clear hown hgrow hat hG hne hv3
              go_wp2_with fail
              refine ⟨⟨k + 1, by omega, rfl, by rw [FS.out, HF.out, ek]; unfold fineP; rw [e3, e4]; rfl, HG3.out.setCell (Or.inl (by simp)) _, _, (by rw [heap_setCell_same _ _ _ _ _ _ HV3.out]; rfl), ?_⟩, by simp only [intOf]; omega⟩
              refine ownsRow_set ?_ ?_ _
              · rw [KS.out, ek]; simpa using HN.out
              · intro h
                have := (HN.out.lt (b + 1) h).1
                have := HS.out
                omega
          · skip
            have HM3 := Lib.hid (HM.out)
            have HO2 := Lib.hid (HO.out)
            have hv2 : wr.heap[b + 1]? = some (.cells #[.bool r, .slice A (kept (L.take k)).length c] 103 (0, 0)) := HV.out
            have c0 : wr.cell? ⟨b + 1, 0, none⟩ = some (.bool r) := by rw [cell_of_row _ _ _ _ _ _ hv2]; rfl
            have c1 : wr.cell? ⟨b + 1, 1, none⟩ = some (.slice A (kept (L.take k)).length c) := by rw [cell_of_row _ _ _ _ _ _ hv2]; rfl
            have HV2 := Lib.hid hv2
            clear hv2
            go_wp2_with (at_builtin; go_must (refine wpList_app _ rfl _ _ 77 77 rfl w1.heap.size 9 i0 (.string ⟨#[]⟩) 1 16 Tryz.underlying77 hi hz0 hz1 hz2 rfl _ _ _ rfl (HO2.out.alloc _) _ 1 [.string p] rfl ?c1 ?c2 ?c3 ?c4 ?_))
            case c1 => exact src_one Tryz.underlying77 _ _ _ rfl
            case c2 => have := KL.out; unfold maxLen; omega
            case c3 => have := KL.out; omega
            case c4 => have := HM3.out.size; simp; omega
            intro v2 w3 hown hgrow hat
            have hG : Mods (Value.slice A (kept (L.take k)).length c).ownBlock.toList wr w3 := ((Mods.refl _ wr).alloc _).grown hgrow (fun x hx => Or.inl (by rw [hx]; simp))
            have hne : b + 1 ∉ (Value.slice A (kept (L.take k)).length c).ownBlock.toList := by
              intro h
              have := (HO2.out.lt (b + 1) (by simpa using h)).1
              have := HS.out
              omega
            have hv3 := hG.heap HV2.out hne
            have c0 : w3.cell? ⟨b + 1, 0, none⟩ = some (.bool r) := by rw [cell_of_row _ _ _ _ _ _ hv3]; rfl
            have c1 : w3.cell? ⟨b + 1, 1, none⟩ = some (.slice A (kept (L.take k)).length c) := by rw [cell_of_row _ _ _ _ _ _ hv3]; rfl
            have k1 : w3.frozen? ⟨b + 1, 1, none⟩ = false := frozen_of_row _ _ _ _ _ hv3
            have HG3 := Lib.hid ((HM3.out.alloc _).grown hgrow (fun x hx => Or.inr (HO2.out.lt x hx).1))
            have HV3 := Lib.hid hv3
            obtain ⟨A2, c2, rfl⟩ := own_ctor hown
            have HN := Lib.hid hown
            clear hown hgrow hat hG hne hv3
            go_wp2_with fail
            refine ⟨⟨k + 1, by omega, rfl, by rw [FS.out, HF.out, ek]; unfold fineP; rw [e3]; rfl, HG3.out.setCell (Or.inl (by simp)) _, _, (by rw [heap_setCell_same _ _ _ _ _ _ HV3.out]; rfl), ?_⟩, by simp only [intOf]; omega⟩
            refine ownsRow_set ?_ ?_ _
            · rw [KS.out, ek]; simpa using HN.out
            · intro h
              have := (HN.out.lt (b + 1) h).1
              have := HS.out
              omega
        · have ek : skipP p = true := by unfold skipP; rw [e1, e2]; rfl
          go_wp2_with fail
          refine ⟨⟨k + 1, by omega, rfl, by rw [FS.out, HF.out, ek]; rfl, HM.out, _, HV.out, ?_⟩, by simp only [intOf]; omega⟩
          rw [KS.out, ek]; simpa using HO.out
      · have ek : skipP p = true := by unfold skipP; rw [e1]; rfl
        go_wp2_with fail
        refine ⟨⟨k + 1, by omega, rfl, by rw [FS.out, HF.out, ek]; rfl, HM.out, _, HV.out, ?_⟩, by simp only [intOf]; omega⟩
        rw [KS.out, ek]; simpa using HO.out
    · have hkl : k = L.length := by omega
      subst hkl
      have hfit : fit L = true := by have := HF.out; rwa [List.take_length] at this
      rw [List.take_length] at HO c1
      have hM2 := Lib.hid (Mods.trans HB.out HM.out (by intro x hx; simp at hx; right; omega))
      go_wp2_with fail
      all_goals first | (exfalso; simp_all; done) | skip
      refine bodyPost_ret (v := .tuple #[.agg #[.bool r, .slice A (kept L).length c], .int .i64 0]) (by simp [results, Tryz.results84, go_sem, d0, d1]) rfl ?_
      refine ⟨_, rfl, (hM2.out.setCell (Or.inr (by show w.heap.size ≤ b; omega)) _).setCell (Or.inr (by show w.heap.size ≤ b; omega)) _, ownsRow_set (ownsRow_set (ownsRow_base HO.out (by rw [HS.out]; omega)) ?_ _) ?_ _⟩
      · intro h; have := (HO.out.lt b h).1; have := HS.out; omega
      · intro h; have := (HO.out.lt b h).1; have := HS.out; omega
end Go.Proofs.YtmcekhgmmocajaaGreatDoor
namespace Go.Proofs.YtmcekhgmmocajaaGreatDoor
open Go.RowKit Me

theorem sjoin_any (l : List ByteArray) (v : Value) (w : World) (hv : Rd w v (l.map Value.string)) (hl : l.length ≤ 4294967296) (hj : (joinS l).length ≤ 140737488355328) :
    Calls Tryz.prog 49 #[v, .string ⟨#[47]⟩] w fun e w' => e = .returned (.string (mkB (joinS l))) ∧ Below w.heap.size w w' := by
  obtain ⟨A, c, rfl, h1, h2, h3⟩ := hv
  rw [List.length_map] at h1 ⊢
  cases l with
  | nil =>
    refine (Tryz.strings_Join_none A c ⟨#[47]⟩ w).mono ?_
    rintro e w' ⟨rfl, rfl⟩
    exact ⟨rfl, Below.refl _ _⟩
  | cons x l =>
    obtain ⟨g, o, rfl, h4⟩ := h3 0 _ rfl
    refine (Tryz.strings_Join g o c (x :: l) ⟨#[47]⟩ w (fun j y hy => ?_) (World.block_lt_of_cell? w _ h4) (by omega) h1 hj).mono ?_
    · obtain ⟨g', o', e, h5⟩ := h3 j (.string y) (by rw [List.getElem?_map, hy]; rfl)
      cases e
      exact h5
    · rintro e w' ⟨rfl, hb⟩
      exact ⟨rfl, hb⟩
theorem slash_mk (l : List UInt8) : (⟨#[47]⟩ : ByteArray) ++ mkB l = mkB (47 :: l) := by
  apply data_inj
  simp [mkB]
theorem box84 (w : World) (r : Bool) (v : Value) (w1 : World) (hb : Mods [] (w.alloc (.cells #[.bool r, v] 103)) w1) :
    w1.heap[w.heap.size]? = some (.cells #[.bool r, v] 103 (0, 0)) := hb.heap (heap_alloc_new w _) (by simp)
set_option maxRecDepth 100000 in
theorem njoin_any (r : Bool) (l : List ByteArray) (v : Value) (w : World) (hv : Rd w v (l.map Value.string)) (hl : l.length ≤ 4294967296) (hj : (joinS l).length ≤ 140737488355328) :
    Calls Tryz.prog 85 #[.agg #[.bool r, v]] w fun e w' => e = .returned (.string (joinP r l)) ∧ Below w.heap.size w w' := by
  have H := Lib.hid (fun w' (hw : Mods [] w w') => sjoin_any l v w' (hv.mods hw (by simp)) hl hj)
  obtain ⟨A, c, rfl, h1, h2, h3⟩ := hv
  rw [List.length_map] at *
  have HJ := Lib.hid (show joinP r l = if r then mkB (47 :: joinS l) else if l.isEmpty then ⟨#[46]⟩ else mkB (joinS l) from rfl)
  have HS := Lib.hid (slash_mk (joinS l))
  have HE := Lib.hid (show l.isEmpty = decide (l.length = 0) by cases l <;> simp)
  have hz : (mkB (joinS l)).size ≤ 140737488355328 := by
    simp only [mkB, ByteArray.size, List.size_toArray]
    exact hj
  clear h3
  generalize joinP r l = q at *
  generalize l.isEmpty = emp at *
  generalize l.length = n at *
  generalize joinS l = s at *
  clear hj
  have HA := Lib.hid (((Mods.refl [] w).alloc (.cells #[.bool r, .slice A n c] 103)))
  cases r
  all_goals go_enter Tryz.func85, Tryz.ntmps85
  all_goals go_wp2_with fail
  all_goals (refine (H.out _ HA.out).mono ?_; rintro e w1 ⟨rfl, hb⟩)
  all_goals have hbx := box84 _ _ _ _ (Mods.below hb [])
  all_goals have c0 := cell_of_row _ _ 0 _ _ _ hbx
  all_goals have c1 := cell_of_row _ _ 1 _ _ _ hbx
  all_goals simp only [List.getElem?_toArray, List.getElem?_cons_zero, List.getElem?_cons_succ] at c0 c1
  all_goals have HB := Lib.hid (HA.out.trans (Mods.below hb []) (by simp))
  all_goals clear hb hbx
  all_goals go_wp2_with fail
  all_goals go_ret
  all_goals refine ⟨?_, HB.out.toBelow (by simp)⟩
  all_goals (have hq := HJ.out; have he := HE.out; have hs := HS.out; clear HJ HE HS)
  all_goals simp_all
end Go.Proofs.YtmcekhgmmocajaaGreatDoor
namespace Go.Proofs.YtmcekhgmmocajaaGreatDoor
open Go.RowKit Me

/-- The loop of Clean behind k parts. -/
def RelC (r : Bool) (L : List ByteArray) (w1 : World) (v i : Value) (wr : World) : Prop :=
  ∃ k : Nat, k ≤ L.length ∧ i = .int .i64 (k : Int) ∧ Mods [] w1 wr ∧ wr.ownsRow w1.heap.size 9 1 v (reduce r (L.take k)).length ((reduce r (L.take k)).map Value.string)
theorem red_app {r : Bool} {q : List ByteArray} {p : ByteArray} (h : (p.toList == [46, 46]) = false) : redStep r q p = q ++ [p] := by
  unfold redStep up2
  rw [h]
  rfl
theorem red_drop {r : Bool} {q : List ByteArray} {p l : ByteArray} (h : (p.toList == [46, 46]) = true) (hl : q.getLast? = some l) (h2 : (l.toList == [46, 46]) = false) : redStep r q p = q.dropLast := by
  unfold redStep up2
  rw [h, hl]
  simp [h2]
theorem red_none {r : Bool} {q : List ByteArray} {p : ByteArray} (h : (p.toList == [46, 46]) = true) (hl : ∀ l, q.getLast? = some l → (l.toList == [46, 46]) = true) : redStep r q p = if r then q else q ++ [p] := by
  unfold redStep up2
  rw [h]
  cases hq : q.getLast? with
  | none => rfl
  | some l => simp [hl l hq]
set_option maxRecDepth 100000 in
set_option maxHeartbeats 1000000 in
theorem nclean_any (s : ByteArray) (w : World) (hs : s.size < 4294967281) (hT : Tabs w) :
    Calls Tryz.prog 44 #[.string s] w fun e w' => e = .returned (.tuple #[.string (if fit (pieces s) then cleanB s else ⟨#[]⟩), .int .i64 (if fit (pieces s) then 0 else 51)]) ∧ Mods [] w w' := by
  obtain ⟨i0, hi, hz0, hz1, hz2⟩ := info_parts info9
  have H1 := Lib.hid (nsplit_any s w hs hT)
  have hl := pieces_length s
  have hcb := Lib.countB_le ⟨#[47]⟩ (by decide) _ s (Nat.le_refl _)
  have hk : (kept (pieces s)).length ≤ 4294967290 := by
    refine Nat.le_trans (List.length_filter_le _ _) ?_
    omega
  have HJL : ∀ r, Hid ((joinS (reduce r (kept (pieces s)))).length ≤ 140737488355328) := by
    intro r
    exact Lib.hid (Nat.le_trans (clean_len r s) (by omega))
  have HC := Lib.hid (show cleanB s = joinP (rootedB s) (reduce (rootedB s) (kept (pieces s))) from rfl)
  rw [HC.out]
  rw [show Lib.hasPrefix s.data.toList [47] = rootedB s from rfl] at H1
  generalize rootedB s = r at *
  generalize pieces s = P at *
  cases hf : fit P
  · simp only [hf, Bool.false_and, Bool.false_eq_true, if_false] at H1 ⊢
    clear HC hT hl hcb hk HJL
    go_enter Tryz.func44, Tryz.ntmps44
    go_wp2_with fail
    refine H1.out.mono ?_; rintro e w1 ⟨v, rfl, hm, ho⟩
    obtain ⟨A, c, rfl⟩ := own_ctor ho
    have HM := Lib.hid hm
    clear hm ho
    go_wp2_with fail
    refine bodyPost_ret (v := .tuple #[.string ⟨#[]⟩, .int .i64 51]) (by simp [results, Tryz.results44, go_sem]) rfl ?_
    exact ⟨rfl, HM.out.alloc _⟩
  · simp only [hf, Bool.true_and, if_true] at H1 ⊢
    generalize kept P = L at *
    clear HC hT hl hcb hs hf
    go_enter Tryz.func44, Tryz.ntmps44
    go_wp2_with fail
    refine H1.out.mono ?_; rintro e w0 ⟨v, rfl, hm, ho⟩
    obtain ⟨A, c, rfl⟩ := own_ctor ho
    have HM := Lib.hid hm
    have HO := Lib.hid ho
    clear hm ho H1
    have HW := Lib.hid (heap_alloc_new w0 (.cells #[.bool r, .slice A L.length c] 103))
    have HO1 := Lib.hid (HO.out.alloc (.cells #[.bool r, .slice A L.length c] 103))
    have HM1 := Lib.hid (HM.out.alloc (.cells #[.bool r, .slice A L.length c] 103))
    have hlt0 : w0.heap.size < (w0.alloc (.cells #[.bool r, .slice A L.length c] 103)).heap.size := by simp
    go_wp2_with fail
    generalize w0.alloc (.cells #[.bool r, .slice A L.length c] 103) = w1 at *
    generalize w0.heap.size = b at *
    go_loopw [6, 21] (fun v i wr => RelC r L w1 v i wr) (fun _ i _ => L.length - (intOf i).toNat)
    case atStart => exact ⟨0, by omega, rfl, Mods.refl _ _, World.ownsRow_nil _ _ _ _⟩
    case round =>
      obtain ⟨k, hk, rfl, hml, hol⟩ := hrel
      obtain ⟨AL, cl, rfl⟩ := own_ctor hol
      have HML := Lib.hid hml
      have HOL := Lib.hid hol
      have KL0 := reduce_length r L k
      have hb := hml.heap HW.out (by simp)
      have d0 : wr.cell? ⟨b, 0, none⟩ = some (.bool r) := by rw [cell_of_row _ _ _ _ _ _ hb]; rfl
      have d1 : wr.cell? ⟨b, 1, none⟩ = some (.slice A L.length c) := by rw [cell_of_row _ _ _ _ _ _ hb]; rfl
      have hol2 := ownsRow_mods HO1.out hml (by simp)
      rcases Nat.lt_or_ge k L.length with hlt | hge
      · obtain ⟨p, hp⟩ : ∃ p, L[k]? = some p := ⟨_, List.getElem?_eq_getElem hlt⟩
        have KL : Hid ((reduce r (L.take k)).length ≤ 4294967290) := Lib.hid (by omega)
        obtain ⟨g, rfl⟩ : ∃ g, A = some ⟨g, 0, none⟩ := by
          rcases ownsRow_form hol2 with ⟨e, h1, _⟩ | ⟨g, cap, e, _⟩
          · omega
          · cases e; exact ⟨g, rfl⟩
        have c2 : wr.cell? ⟨g, k, none⟩ = some (.string p) := by
          have := hol2.cells (g := g) rfl k (.string p) (by rw [List.getElem?_map, hp]; rfl)
          rw [Addr.add_lit] at this
          simpa using this
        have KS := Lib.hid (reduce_step r L k p hp)
        clear hml hol hb hol2 KL0
        cases e1 : p.toList == [46, 46]
        · have hq := red_app (r := r) (q := reduce r (L.take k)) e1
          have HQ := Lib.hid (KS.out.trans hq)
          clear hq KS
          go_wp2_with (at_builtin; go_must (refine wpList_app _ rfl _ _ 77 77 rfl w1.heap.size 9 i0 (.string ⟨#[]⟩) 1 16 Tryz.underlying77 hi hz0 hz1 hz2 rfl _ _ _ rfl (HOL.out.alloc _) _ 1 [.string p] rfl ?c1 ?c2 ?c3 ?c4 ?_))
          case c1 => exact src_one Tryz.underlying77 _ _ _ rfl
          case c2 => have := KL.out; unfold maxLen; omega
          case c3 => have := KL.out; omega
          case c4 => have := HML.out.size; simp; omega
          intro v2 w3 hown hgrow hat
          have HG3 := Lib.hid ((HML.out.alloc _).grown hgrow (fun x hx => Or.inr (HOL.out.lt x hx).1))
          obtain ⟨A2, c2, rfl⟩ := own_ctor hown
          have HN := Lib.hid hown
          clear hown hgrow hat
          go_wp2_with fail
          refine ⟨⟨k + 1, by omega, rfl, HG3.out, ?_⟩, by simp only [intOf]; omega⟩
          rw [HQ.out]
          simpa using HN.out
        · obtain ⟨q, hqe⟩ : ∃ q, reduce r (L.take k) = q := ⟨_, rfl⟩
          rw [hqe] at HOL KS KL ⊢
          cases hg : q.getLast? with
          | none =>
            obtain rfl := List.getLast?_eq_none_iff.1 hg
            have HGL : Hid (∀ l, ([] : List ByteArray).getLast? = some l → (l.toList == [46, 46]) = true) := Lib.hid (fun l h => by cases h)
            clear hg hqe
            simp only [List.length_nil] at HOL KL ⊢
            cases r
            · have HQ := Lib.hid (KS.out.trans (red_none (r := false) e1 HGL.out))
              clear KS
              go_wp2_with (at_builtin; go_must (refine wpList_app _ rfl _ _ 77 77 rfl w1.heap.size 9 i0 (.string ⟨#[]⟩) 1 16 Tryz.underlying77 hi hz0 hz1 hz2 rfl _ _ _ rfl (HOL.out.alloc _) _ 1 [.string p] rfl ?c1 ?c2 ?c3 ?c4 ?_))
              case c1 => exact src_one Tryz.underlying77 _ _ _ rfl
              case c2 => have := KL.out; unfold maxLen; omega
              case c3 => have := KL.out; omega
              case c4 => have := HML.out.size; simp; omega
              intro v2 w3 hown hgrow hat
              have HG3 := Lib.hid ((HML.out.alloc _).grown hgrow (fun x hx => Or.inr (HOL.out.lt x hx).1))
              obtain ⟨A2, c2, rfl⟩ := own_ctor hown
              have HN := Lib.hid hown
              clear hown hgrow hat
              go_wp2_with fail
              refine ⟨⟨k + 1, by omega, rfl, HG3.out, ?_⟩, by simp only [intOf]; omega⟩
              rw [HQ.out]
              simpa using HN.out
            · have HQ := Lib.hid (KS.out.trans (red_none (r := true) e1 HGL.out))
              clear KS
              go_wp2_with fail
              refine ⟨⟨k + 1, by omega, rfl, HML.out, ?_⟩, by simp only [intOf]; omega⟩
              rw [HQ.out]
              simpa using HOL.out
          | some l =>
            obtain ⟨q', rfl⟩ := List.getLast?_eq_some_iff.1 hg
            obtain ⟨g2, rfl⟩ : ∃ g, AL = some ⟨g, 0, none⟩ := by
              rcases ownsRow_form HOL.out with ⟨e, h1, _⟩ | ⟨g, cap, e, _⟩
              · simp at h1
              · cases e; exact ⟨g, rfl⟩
            have c3 : wr.cell? ⟨g2, q'.length, none⟩ = some (.string l) := by
              have := HOL.out.cells (g := g2) rfl q'.length (.string l) (by rw [List.getElem?_map]; simp)
              rw [Addr.add_lit] at this
              simpa using this
            have hlc : q'.length + 1 ≤ cl := by
              rcases ownsRow_form HOL.out with ⟨e, _⟩ | ⟨g, cap, e, h1, _⟩
              · cases e
              · cases e; simpa using h1
            have hlen : (q' ++ [l]).length = q'.length + 1 := by simp
            rw [hlen] at HOL KL ⊢
            have hkl := KL.out
            cases e3 : l.toList == [46, 46]
            · have HQ := Lib.hid (KS.out.trans (red_drop e1 hg e3))
              clear KS hg hqe
              generalize hm : q'.length = m at *
              go_wp2_with fail
              refine ⟨⟨k + 1, by omega, rfl, HML.out, ?_⟩, by simp only [intOf]; omega⟩
              rw [HQ.out]
              have hh := ownsRow_cut HOL.out m (by omega)
              simpa [hm] using hh
            · have HGL : Hid (∀ x, (q' ++ [l]).getLast? = some x → (x.toList == [46, 46]) = true) := Lib.hid (fun x h => by rw [hg] at h; cases h; exact e3)
              clear hg hqe
              generalize hm : q'.length = m at *
              cases r
              · have HQ := Lib.hid (KS.out.trans (red_none (r := false) e1 HGL.out))
                clear KS
                go_wp2_with (at_builtin; go_must (refine wpList_app _ rfl _ _ 77 77 rfl w1.heap.size 9 i0 (.string ⟨#[]⟩) 1 16 Tryz.underlying77 hi hz0 hz1 hz2 rfl _ _ _ rfl (HOL.out.alloc _) _ 1 [.string p] rfl ?c1 ?c2 ?c3 ?c4 ?_))
                case c1 => exact src_one Tryz.underlying77 _ _ _ rfl
                case c2 => have := KL.out; unfold maxLen; omega
                case c3 => have := KL.out; omega
                case c4 => have := HML.out.size; simp; omega
                intro v2 w3 hown hgrow hat
                have HG3 := Lib.hid ((HML.out.alloc _).grown hgrow (fun x hx => Or.inr (HOL.out.lt x hx).1))
                obtain ⟨A2, c2, rfl⟩ := own_ctor hown
                have HN := Lib.hid hown
                clear hown hgrow hat
                go_wp2_with fail
                refine ⟨⟨k + 1, by omega, rfl, HG3.out, ?_⟩, by simp only [intOf]; omega⟩
                rw [HQ.out]
                simpa [hm] using HN.out
              · have HQ := Lib.hid (KS.out.trans (red_none (r := true) e1 HGL.out))
                clear KS
                go_wp2_with fail
                refine ⟨⟨k + 1, by omega, rfl, HML.out, ?_⟩, by simp only [intOf]; omega⟩
                rw [HQ.out]
                simpa [hm] using HOL.out
      · obtain rfl : k = L.length := by omega
        rw [List.take_length] at HOL
        clear hml hol hb hol2
        have HJ := Lib.hid (fun w' (hw : Mods [] wr w') => njoin_any r (reduce r L) (.slice AL (reduce r L).length cl) w' (Rd.mods (Rd.of_own HOL.out) hw (by simp)) (by rw [List.take_length] at KL0; omega) (HJL r).out)
        go_wp2_with fail
        refine (HJ.out _ (Mods.refl _ _)).mono ?_
        rintro e w4 ⟨rfl, hb4⟩
        have HB4 := Lib.hid (Mods.below hb4 [])
        clear hb4
        go_wp2_with fail
        refine bodyPost_ret (v := .tuple #[.string (joinP r (reduce r L)), .int .i64 0]) (by simp [results, Tryz.results44, go_sem]) rfl ?_
        exact ⟨rfl, (HM1.out.trans HML.out (by simp)).trans HB4.out (by simp)⟩
end Go.Proofs.YtmcekhgmmocajaaGreatDoor
