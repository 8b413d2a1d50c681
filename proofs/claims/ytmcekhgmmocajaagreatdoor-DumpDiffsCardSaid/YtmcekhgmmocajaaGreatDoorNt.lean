/- names.Split, walked. -/
import Derived.Test.YtmcekhgmmocajaaGreatDoorNp
import Derived.Test.YtmcekhgmmocajaaGreatDoorWu
namespace Go.Proofs.YtmcekhgmmocajaaGreatDoor
open Go.RowKit Me

/-- The loop of Split behind i pieces. -/
def RelS (L : List ByteArray) (b1 : Nat) (r : Bool) (w1 : World) (i : Value) (wr : World) : Prop :=
  ∃ k : Nat, k ≤ L.length ∧ i = .int .i64 (k : Int) ∧ fit (L.take k) = true ∧ Mods [b1] w1 wr ∧
    ∃ v, wr.heap[b1]? = some (.cells #[.bool r, v] 103 (0, 0)) ∧ wr.ownsRow w1.heap.size 9 1 v (kept (L.take k)).length ((kept (L.take k)).map Value.string)

theorem info9 : (Tryz.prog.info? 9).map (fun i => (i.zero, i.size, i.bytes)) = some (some (.string ⟨#[]⟩), 1, 16) := by kernel_rfl
set_option maxRecDepth 100000 in
set_option maxHeartbeats 1000000 in
theorem nsplit_any (s : ByteArray) (w : World) (hs : s.size < 4294967281) (hT : Tabs w) :
    Calls Tryz.prog 84 #[.string s] w fun e w' => ∃ v, e = .returned (.tuple #[.agg #[.bool (fit (pieces s) && Lib.hasPrefix s.data.toList [47]), v], .int .i64 (if fit (pieces s) then 0 else 51)]) ∧ Mods [] w w' ∧
      w'.ownsRow w.heap.size 9 1 v (if fit (pieces s) then (kept (pieces s)).length else 0) (if fit (pieces s) then (kept (pieces s)).map Value.string else []) := by
  obtain ⟨i0, hi, hz0, hz1, hz2⟩ := info_parts info9
  have H1 := Lib.hid (fun w' => Tryz.strings_HasPrefix s ⟨#[47]⟩ w')
  obtain ⟨m, hm⟩ := hT.m
  have H2 := Lib.hid (fun w' hw => Tryz.strings_Split s ⟨#[47]⟩ m w' hs hw (by decide))
  have hl := pieces_length s
  have hsz := fun p hp => Nat.lt_of_le_of_lt (pieces_size s p hp) hs
  have hcb := Lib.countB_le ⟨#[47]⟩ (by decide) _ s (Nat.le_refl _)
  rw [show Lib.splitB ⟨#[47]⟩ 0 (Lib.countB s ⟨#[47]⟩) s = pieces s from rfl, ← hl] at H2
  generalize pieces s = L at *
  have HM := Lib.hid (fun w' (hw : Below w.heap.size w w') => (hw.cell (p := ⟨0, 0, none⟩) (by have := hT.three; show 0 < w.heap.size; omega)).trans hm)
  have HT := Lib.hid hT
  have HL := Lib.hid hsz
  have hL : L.length ≤ 4294967290 := by omega
  generalize Lib.hasPrefix s.data.toList [47] = r at *
  clear hs hT hm hl hsz hcb
  go_enter Tryz.func84, Tryz.ntmps84
  go_wp2_with (first | (refine (H1.out _).mono ?_; rintro e w1 ⟨rfl, rfl⟩))
  refine (H2.out _ ?_).mono ?_
  · exact HM.out _ (((Below.refl _ _).alloc (Nat.le_refl _) _).alloc (by simp) _)
  rintro e w1 ⟨rfl, hw1⟩
  have hB : Mods [] w w1 := by rw [hw1]; exact (((Mods.refl _ _).alloc _).alloc _).alloc _
  have hb0 : w1.heap[w.heap.size]? = some (.cells #[.bool false, .slice none 0 0] 103 (0, 0)) := by rw [hw1]; show (((w.heap.push _).push _).push _)[_]? = _; simp [Array.getElem?_push, Array.getElem_push]; try omega
  have hb1 : w1.heap[w.heap.size + 1]? = some (.cells #[.bool r, .slice none 0 0] 103 (0, 0)) := by rw [hw1]; show (((w.heap.push _).push _).push _)[_]? = _; simp [Array.getElem_push]
  have hb2 : w1.heap[w.heap.size + 2]? = some (.cells (L.map Value.string).toArray 9 (0, 0)) := by rw [hw1]; show (((w.heap.push _).push _).push _)[_]? = _; simp [Array.getElem_push]
  have hsz : w1.heap.size = w.heap.size + 3 := by rw [hw1]; simp
  have hz : ((w.alloc (Obj.cells #[Value.bool false, Value.slice none 0 0] 103)).alloc (Obj.cells #[Value.bool r, Value.slice none 0 0] 103)).heap.size = w.heap.size + 2 := by simp
  rw [hz]
  have HB := Lib.hid hB
  have HB0 := Lib.hid hb0
  have HB1 := Lib.hid hb1
  have HB2 := Lib.hid hb2
  have HS := Lib.hid hsz
  have hw3 : 3 ≤ w.heap.size := HT.out.three
  clear hw1 hB hb0 hb1 hb2 hsz hz
  generalize hbb : w.heap.size = b at *
  go_wp2_with fail
  go_loopw [13] (fun i wr => RelS L (b + 1) r w1 i wr) (fun i _ => L.length - (intOf i).toNat)
  case atStart => exact ⟨0, by omega, rfl, rfl, Mods.refl _ _, _, HB1.out, World.ownsRow_nil _ _ _ _⟩
  case round =>
    obtain ⟨k, hk, rfl, hf, hm, v, hv, ho⟩ := hrel
    obtain ⟨A, c, rfl⟩ := own_ctor ho
    have HO := Lib.hid ho
    have HM := Lib.hid hm
    have HV := Lib.hid hv
    have HF := Lib.hid hf
    have c0 : wr.cell? ⟨b + 1, 0, none⟩ = some (.bool r) := by rw [cell_of_row _ _ _ _ _ _ hv]; rfl
    have c1 : wr.cell? ⟨b + 1, 1, none⟩ = some (.slice A (kept (L.take k)).length c) := by rw [cell_of_row _ _ _ _ _ _ hv]; rfl
    have hb0' : wr.heap[b]? = some (.cells #[.bool false, .slice none 0 0] 103 (0, 0)) := hm.heap HB0.out (by simp)
    have d0 : wr.cell? ⟨b, 0, none⟩ = some (.bool false) := by rw [cell_of_row _ _ _ _ _ _ hb0']; rfl
    have d1 : wr.cell? ⟨b, 1, none⟩ = some (.slice none 0 0) := by rw [cell_of_row _ _ _ _ _ _ hb0']; rfl
    have k0 : wr.frozen? ⟨b, 0, none⟩ = false := frozen_of_row _ _ _ _ _ hb0'
    have k1 : wr.frozen? ⟨b, 1, none⟩ = false := frozen_of_row _ _ _ _ _ hb0'
    have HBR := Lib.hid hb0'
    clear ho hm hf
    rcases Nat.lt_or_ge k L.length with hlt | hge
    · obtain ⟨p, hp⟩ : ∃ p, L[k]? = some p := ⟨_, List.getElem?_eq_getElem hlt⟩
      have c2 : wr.cell? ⟨b + 2, k, none⟩ = some (.string p) := by rw [cell_of_row _ _ _ _ _ _ (HM.out.heap HB2.out (by simp))]; simp [hp]
      have hM2 := Lib.hid (Mods.trans HB.out HM.out (by intro x hx; simp at hx; right; omega))
      have HC := Lib.hid (check_any p wr (HL.out p (List.mem_of_getElem? hp)) (HT.out.below (hM2.out.toBelow (by simp)) (by rw [hbb]; omega)))
      have KS := Lib.hid (kept_step L k p hp)
      have FS := Lib.hid (fit_step L k p hp)
      have FN := Lib.hid (fit_not L (k + 1))
      have KL : Hid ((kept (L.take k)).length ≤ 4294967290) := Lib.hid (Nat.le_trans (List.length_filter_le _ _) (by rw [List.length_take]; omega))
      cases e1 : p.toList.isEmpty
      · cases e2 : p.toList == [46]
        · have ek : skipP p = false := by unfold skipP; rw [e1, e2]; rfl
          cases e3 : p.toList == [46, 46]
          · go_wp2_with fail
            refine HC.out.mono ?_; rintro e w2 ⟨rfl, hw2⟩
            cases e4 : nameOk p
            · skip
              have ef : fit L = false := FN.out (by rw [FS.out, HF.out, ek]; unfold fineP; rw [e3, e4]; rfl)
              have hbw : w2.heap[b]? = some (.cells #[.bool false, .slice none 0 0] 103 (0, 0)) := (hw2.block b (Array.getElem?_eq_some_iff.1 HBR.out).1).trans HBR.out
              have d0 : w2.cell? ⟨b, 0, none⟩ = some (.bool false) := by rw [cell_of_row _ _ _ _ _ _ hbw]; rfl
              have d1 : w2.cell? ⟨b, 1, none⟩ = some (.slice none 0 0) := by rw [cell_of_row _ _ _ _ _ _ hbw]; rfl
              have k0 : w2.frozen? ⟨b, 0, none⟩ = false := frozen_of_row _ _ _ _ _ hbw
              have k1 : w2.frozen? ⟨b, 1, none⟩ = false := frozen_of_row _ _ _ _ _ hbw
              have HW2 := Lib.hid (hM2.out.trans (Mods.below hw2 []) (by simp))
              clear hbw hw2
              go_wp2_with fail
              all_goals refine bodyPost_ret (v := .tuple #[.agg #[.bool false, .slice none 0 0], .int .i64 51]) (by simp [results, Tryz.results84, go_sem, d0, d1]) rfl ?_
              all_goals exact ⟨_, rfl, (HW2.out.setCell (Or.inr (by show w.heap.size ≤ b; omega)) _).setCell (Or.inr (by show w.heap.size ≤ b; omega)) _, World.ownsRow_nil _ _ _ _⟩
            · skip
              have hbl := fun {j o} (h : wr.heap[j]? = some o) => (hw2.block j (Array.getElem?_eq_some_iff.1 h).1).trans h
              have HM3 := Lib.hid (HM.out.trans (Mods.below hw2 []) (by simp))
              have HO2 := Lib.hid (ownsRow_mods HO.out (Mods.below hw2 []) (by simp))
              have hv2 : w2.heap[b + 1]? = some (.cells #[.bool r, .slice A (kept (L.take k)).length c] 103 (0, 0)) := hbl HV.out
              have c0 : w2.cell? ⟨b + 1, 0, none⟩ = some (.bool r) := by rw [cell_of_row _ _ _ _ _ _ hv2]; rfl
              have c1 : w2.cell? ⟨b + 1, 1, none⟩ = some (.slice A (kept (L.take k)).length c) := by rw [cell_of_row _ _ _ _ _ _ hv2]; rfl
              have HV2 := Lib.hid hv2
              clear hv2
              go_wp2_with (at_builtin; go_must (refine wpList_app _ rfl _ _ 77 77 rfl w1.heap.size 9 i0 (.string ⟨#[]⟩) 1 16 Tryz.underlying77 hi hz0 hz1 hz2 rfl _ _ _ rfl (HO2.out.alloc _) _ 1 [.string p] rfl ?c1 ?c2 ?c3 ?c4 ?_))
              case c1 => exact src_one Tryz.underlying77 _ _ _ rfl
              case c2 => have := KL.out; unfold maxLen; omega
              case c3 => have := KL.out; omega
              case c4 => have := HM3.out.size; simp; omega
              intro v2 w3 hown hgrow hat
              have hG : Mods (Value.slice A (kept (L.take k)).length c).ownBlock.toList w2 w3 := ((Mods.refl _ w2).alloc _).grown hgrow (fun x hx => Or.inl (by rw [hx]; simp))
              have hne : b + 1 ∉ (Value.slice A (kept (L.take k)).length c).ownBlock.toList := by
                intro h
                have := (HO2.out.lt (b + 1) (by simpa using h)).1
                have := HS.out
                omega
              have hv3 := hG.heap HV2.out hne
              have c0 : w3.cell? ⟨b + 1, 0, none⟩ = some (.bool r) := by rw [cell_of_row _ _ _ _ _ _ hv3]; rfl
              have c1 : w3.cell? ⟨b + 1, 1, none⟩ = some (.slice A (kept (L.take k)).length c) := by rw [cell_of_row _ _ _ _ _ _ hv3]; rfl
              have k1 : w3.frozen? ⟨b + 1, 1, none⟩ = false := frozen_of_row _ _ _ _ _ hv3
              have HG3 := Lib.hid ((HM3.out.alloc _).grown hgrow (fun x hx => Or.inr (HO2.out.lt x hx).1))
              have HV3 := Lib.hid hv3
              obtain ⟨A2, c2, rfl⟩ := own_ctor hown
              have HN := Lib.hid hown
              clear hown hgrow hat hG hne hv3
              go_wp2_with fail
              refine ⟨⟨k + 1, by omega, rfl, by rw [FS.out, HF.out, ek]; unfold fineP; rw [e3, e4]; rfl, HG3.out.setCell (Or.inl (by simp)) _, _, (by rw [heap_setCell_same _ _ _ _ _ _ HV3.out]; rfl), ?_⟩, by simp only [intOf]; omega⟩
              refine ownsRow_set ?_ ?_ _
              · rw [KS.out, ek]; simpa using HN.out
              · intro h
                have := (HN.out.lt (b + 1) h).1
                have := HS.out
                omega
          · skip
            have HM3 := Lib.hid (HM.out)
            have HO2 := Lib.hid (HO.out)
            have hv2 : wr.heap[b + 1]? = some (.cells #[.bool r, .slice A (kept (L.take k)).length c] 103 (0, 0)) := HV.out
            have c0 : wr.cell? ⟨b + 1, 0, none⟩ = some (.bool r) := by rw [cell_of_row _ _ _ _ _ _ hv2]; rfl
            have c1 : wr.cell? ⟨b + 1, 1, none⟩ = some (.slice A (kept (L.take k)).length c) := by rw [cell_of_row _ _ _ _ _ _ hv2]; rfl
            have HV2 := Lib.hid hv2
            clear hv2
            go_wp2_with (at_builtin; go_must (refine wpList_app _ rfl _ _ 77 77 rfl w1.heap.size 9 i0 (.string ⟨#[]⟩) 1 16 Tryz.underlying77 hi hz0 hz1 hz2 rfl _ _ _ rfl (HO2.out.alloc _) _ 1 [.string p] rfl ?c1 ?c2 ?c3 ?c4 ?_))
            case c1 => exact src_one Tryz.underlying77 _ _ _ rfl
            case c2 => have := KL.out; unfold maxLen; omega
            case c3 => have := KL.out; omega
            case c4 => have := HM3.out.size; simp; omega
            intro v2 w3 hown hgrow hat
            have hG : Mods (Value.slice A (kept (L.take k)).length c).ownBlock.toList wr w3 := ((Mods.refl _ wr).alloc _).grown hgrow (fun x hx => Or.inl (by rw [hx]; simp))
            have hne : b + 1 ∉ (Value.slice A (kept (L.take k)).length c).ownBlock.toList := by
              intro h
              have := (HO2.out.lt (b + 1) (by simpa using h)).1
              have := HS.out
              omega
            have hv3 := hG.heap HV2.out hne
            have c0 : w3.cell? ⟨b + 1, 0, none⟩ = some (.bool r) := by rw [cell_of_row _ _ _ _ _ _ hv3]; rfl
            have c1 : w3.cell? ⟨b + 1, 1, none⟩ = some (.slice A (kept (L.take k)).length c) := by rw [cell_of_row _ _ _ _ _ _ hv3]; rfl
            have k1 : w3.frozen? ⟨b + 1, 1, none⟩ = false := frozen_of_row _ _ _ _ _ hv3
            have HG3 := Lib.hid ((HM3.out.alloc _).grown hgrow (fun x hx => Or.inr (HO2.out.lt x hx).1))
            have HV3 := Lib.hid hv3
            obtain ⟨A2, c2, rfl⟩ := own_ctor hown
            have HN := Lib.hid hown
            clear hown hgrow hat hG hne hv3
            go_wp2_with fail
            refine ⟨⟨k + 1, by omega, rfl, by rw [FS.out, HF.out, ek]; unfold fineP; rw [e3]; rfl, HG3.out.setCell (Or.inl (by simp)) _, _, (by rw [heap_setCell_same _ _ _ _ _ _ HV3.out]; rfl), ?_⟩, by simp only [intOf]; omega⟩
            refine ownsRow_set ?_ ?_ _
            · rw [KS.out, ek]; simpa using HN.out
            · intro h
              have := (HN.out.lt (b + 1) h).1
              have := HS.out
              omega
        · have ek : skipP p = true := by unfold skipP; rw [e1, e2]; rfl
          go_wp2_with fail
          refine ⟨⟨k + 1, by omega, rfl, by rw [FS.out, HF.out, ek]; rfl, HM.out, _, HV.out, ?_⟩, by simp only [intOf]; omega⟩
          rw [KS.out, ek]; simpa using HO.out
      · have ek : skipP p = true := by unfold skipP; rw [e1]; rfl
        go_wp2_with fail
        refine ⟨⟨k + 1, by omega, rfl, by rw [FS.out, HF.out, ek]; rfl, HM.out, _, HV.out, ?_⟩, by simp only [intOf]; omega⟩
        rw [KS.out, ek]; simpa using HO.out
    · have hkl : k = L.length := by omega
      subst hkl
      have hfit : fit L = true := by have := HF.out; rwa [List.take_length] at this
      rw [List.take_length] at HO c1
      have hM2 := Lib.hid (Mods.trans HB.out HM.out (by intro x hx; simp at hx; right; omega))
      go_wp2_with fail
      all_goals first | (exfalso; simp_all; done) | skip
      refine bodyPost_ret (v := .tuple #[.agg #[.bool r, .slice A (kept L).length c], .int .i64 0]) (by simp [results, Tryz.results84, go_sem, d0, d1]) rfl ?_
      refine ⟨_, rfl, (hM2.out.setCell (Or.inr (by show w.heap.size ≤ b; omega)) _).setCell (Or.inr (by show w.heap.size ≤ b; omega)) _, ownsRow_set (ownsRow_set (ownsRow_base HO.out (by rw [HS.out]; omega)) ?_ _) ?_ _⟩
      · intro h; have := (HO.out.lt b h).1; have := HS.out; omega
      · intro h; have := (HO.out.lt b h).1; have := HS.out; omega
end Go.Proofs.YtmcekhgmmocajaaGreatDoor
