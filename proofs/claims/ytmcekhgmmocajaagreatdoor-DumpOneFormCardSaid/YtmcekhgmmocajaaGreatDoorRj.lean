/- The reference's Join. -/
import Derived.Test.YtmcekhgmmocajaaGreatDoorRc
import Derived.Test.YtmcekhgmmocajaaGreatDoorEo
namespace Go.Proofs.YtmcekhgmmocajaaGreatDoor
open Go.RowKit Me

theorem joinS_step (l : List ByteArray) (k : Nat) (p : ByteArray) (h : l[k]? = some p) : joinS (l.take (k + 1)) = joinS (l.take k) ++ (if k = 0 then [] else [47]) ++ p.data.toList := by
  cases l with
  | nil => simp at h
  | cons x r =>
    cases k with
    | zero =>
      simp at h
      subst h
      simp [joinS, Lib.join, List.intercalate]
    | succ k =>
      simp at h
      have h2 : (r.map (·.data.toList))[k]? = some p.data.toList := by rw [List.getElem?_map, h]; rfl
      unfold joinS
      rw [List.take_succ_cons, List.take_succ_cons, List.map_cons, List.map_cons, Lib.join_cons, Lib.join_cons, List.map_take, List.map_take, Lib.joinTail_take_succ _ _ _ _ h2]
      simp
def pre (r : Bool) : List UInt8 := if r then [47] else []
theorem pre_le (r : Bool) : (pre r).length ≤ 1 := by cases r <;> simp [pre]
theorem cells_bytes (s : ByteArray) : byteCells s = s.data.toList.map byteV := by
  unfold byteCells
  apply List.ext_getElem?
  intro i
  simp
  rfl
theorem joinS_bound {l : List ByteArray} {k : Nat} (hj : lenJ l ≤ 100000000000) : (joinS (l.take k)).length ≤ 100000000000 :=
  Nat.le_trans (joinS_len _) (Nat.le_trans (lenJ_sub (List.take_sublist k l)) hj)
theorem piece_bound {l : List ByteArray} {k : Nat} {p : ByteArray} (h : l[k]? = some p) (hj : lenJ l ≤ 100000000000) : p.size ≤ 100000000000 := by
  have h1 : [p].Sublist l := List.singleton_sublist.2 (List.mem_of_getElem? h)
  have h2 := lenJ_sub h1
  simp [lenJ] at h2
  unfold lenJ at hj
  omega
def RelRj (r : Bool) (l : List ByteArray) (b : Nat) (o : Obj) (w : World) (v i : Value) (wr : World) : Prop :=
  ∃ k : Nat, k ≤ l.length ∧ i = .int .i64 (k : Int) ∧ Mods [] w wr ∧ wr.heap[b]? = some o ∧ wr.ownsRow w.heap.size 5 1 v (pre r ++ joinS (l.take k)).length ((pre r ++ joinS (l.take k)).map byteV)
set_option maxRecDepth 100000 in
set_option maxHeartbeats 2000000 in
theorem rjoin_any (r : Bool) (l : List ByteArray) (v : Value) (w : World) (hv : Rd w v (l.map Value.string)) (hl : l.length ≤ 4294967290) (hj : lenJ l ≤ 100000000000) :
    Calls Tryz.prog 98 #[.agg #[.bool r, v]] w fun e w' => e = .returned (.string (joinP r l)) ∧ Mods [] w w' := by
  obtain ⟨i0, hi, hz0, hz1, hz2⟩ := info_parts info5
  have HV := Lib.hid (fun w' (hw : Mods [] w w') => hv.mods hw (by simp))
  obtain ⟨A, c, rfl, -⟩ := hv
  rw [List.length_map] at *
  have HP := Lib.hid (show joinP r l = if r then mkB (47 :: joinS l) else if l.isEmpty then ⟨#[46]⟩ else mkB (joinS l) from rfl)
  have HB := Lib.hid (heap_alloc_new w (.cells #[.bool r, .slice A l.length c] 103))
  have HA := Lib.hid ((Mods.refl [] w).alloc (.cells #[.bool r, .slice A l.length c] 103))
  have a0 : (w.alloc (.cells #[.bool r, .slice A l.length c] 103)).cell? ⟨w.heap.size, 0, none⟩ = some (.bool r) := by rw [cell_of_row _ _ _ _ _ _ HB.out]; rfl
  have a1 : (w.alloc (.cells #[.bool r, .slice A l.length c] 103)).cell? ⟨w.heap.size, 1, none⟩ = some (.slice A l.length c) := by rw [cell_of_row _ _ _ _ _ _ HB.out]; rfl
  have hsz : (w.alloc (.cells #[.bool r, .slice A l.length c] 103)).heap.size = w.heap.size + 1 := by simp
  go_enter Tryz.func98, Tryz.ntmps98
  generalize hpj : joinP r l = res at *
  cases r
  · by_cases h0 : l = []
    · have HR : Hid (res = ⟨#[46]⟩) := Lib.hid (by rw [HP.out, h0]; rfl)
      subst h0
      simp only [List.length_nil] at *
      go_wp2_with fail
      go_ret
      exact ⟨by rw [HR.out]; rfl, HA.out⟩
    · have hne : (((l.length : Int) == 0) = false) := by simp; exact h0
      have HR : Hid (res = mkB (joinS l)) := Lib.hid (by rw [HP.out]; simp [h0])
      go_wp2_with fail
      generalize w.alloc (.cells #[.bool false, .slice A l.length c] 103) = w1 at *
      clear a0 a1
      go_loopw [3, 4] (fun v i wr => RelRj false l w.heap.size (.cells #[.bool false, .slice A l.length c] 103 (0, 0)) w v i wr) (fun _ i _ => l.length - (intOf i).toNat)
      case atStart => exact ⟨0, by omega, rfl, HA.out, HB.out, World.ownsRow_nil _ _ _ _⟩
      case round =>
        obtain ⟨k, hk, rfl, hm, hbx, ho⟩ := hrel
        obtain ⟨Ab, cb, rfl⟩ := own_ctor ho
        have HM := Lib.hid hm
        have HBX := Lib.hid hbx
        have HO := Lib.hid ho
        have a0 : wr.cell? ⟨w.heap.size, 0, none⟩ = some (.bool false) := by rw [cell_of_row _ _ _ _ _ _ hbx]; rfl
        have a1 : wr.cell? ⟨w.heap.size, 1, none⟩ = some (.slice A l.length c) := by rw [cell_of_row _ _ _ _ _ _ hbx]; rfl
        have hws := hm.size
        have hnb : ∀ v' : Value, ∀ q, v'.ownBlock = some q → True := fun _ _ _ => trivial
        clear hm hbx ho hnb
        rcases Nat.lt_or_ge k l.length with hlt | hge
        · obtain ⟨p, hp⟩ : ∃ p, l[k]? = some p := ⟨_, List.getElem?_eq_getElem hlt⟩
          obtain ⟨A', c', e9, -, -, h3⟩ := HV.out wr HM.out
          obtain ⟨rfl, -, -⟩ := Value.slice.inj e9
          obtain ⟨g, off, rfl, cp⟩ := h3 k (.string p) (by rw [List.getElem?_map, hp]; rfl)
          have HJS := Lib.hid (joinS_step l k p hp)
          have hb1 := joinS_bound (k := k) hj
          have hb2 := piece_bound hp hj
          have hb3 := pre_le false
          have HPK := Lib.hid hp
          clear e9 h3 hp
          have hlen : (pre false ++ joinS (l.take k)).length ≤ 100000000001 := by rw [List.length_append]; omega
          generalize hB : pre false ++ joinS (l.take k) = B at *
          have HBB := Lib.hid hB
          clear hB hb1 hb3
          by_cases hk0 : k = 0
          · subst hk0
            simp only [Nat.add_zero] at cp
            go_wp2_with (at_builtin; go_must (refine wpList_app _ rfl _ _ 22 9 rfl w.heap.size 5 i0 (.int .u8 0) 1 1 Tryz.underlying22 hi hz0 hz1 hz2 rfl _ _ _ rfl HO.out _ p.size (byteCells p) rfl (Src.ofString _ Tryz.underlying9 p) (by unfold maxLen; omega) (by omega) hws ?_))
            intro v2 w3 hown hgrow hat
            have HN : Hid (pre false ++ joinS (l.take (0 + 1)) = B ++ p.data.toList) := Lib.hid (by rw [HJS.out, ← HBB.out]; simp)
            have HM3 := Lib.hid (HM.out.grown hgrow (fun x hx => Or.inr (HO.out.lt x hx).1))
            have HX3 := Lib.hid (((Mods.refl (Value.slice Ab B.length cb).ownBlock.toList wr).grown hgrow (fun x hx => Or.inl (by rw [hx]; simp))).heap HBX.out (fun hh => ownsRow_not HO.out HBX.out (by decide) (by simpa using hh)))
            rw [cells_bytes] at hown
            obtain ⟨A2, c2, rfl⟩ := own_ctor hown
            have HN3 := Lib.hid hown
            clear hown hgrow hat
            go_wp2_with fail
            refine ⟨⟨0 + 1, by omega, rfl, HM3.out, HX3.out, ?_⟩, by simp only [intOf]; omega⟩
            rw [HN.out]
            simpa using HN3.out
          · have hk1 : decide ((0 : Int) < (k : Int)) = true := decide_eq_true (by omega)
            go_wp2_with (at_builtin; go_must (refine wpList_app _ rfl _ _ 22 22 rfl w.heap.size 5 i0 (.int .u8 0) 1 1 Tryz.underlying22 hi hz0 hz1 hz2 rfl _ _ _ rfl (HO.out.alloc _) _ 1 [.int .u8 47] rfl ?d1 ?d2 ?d3 ?d4 ?_))
            case d1 => exact src_one Tryz.underlying22 _ _ _ rfl
            case d2 => unfold maxLen; omega
            case d3 => omega
            case d4 => simp; omega
            intro v1 w2 hown hgrow hat
            have HM2 := Lib.hid ((HM.out.alloc _).grown hgrow (fun x hx => Or.inr (HO.out.lt x hx).1))
            have hx2 := ((((Mods.refl (Value.slice Ab B.length cb).ownBlock.toList wr).alloc _).grown hgrow (fun x hx => Or.inl (by rw [hx]; simp))).heap HBX.out (fun hh => ownsRow_not HO.out HBX.out (by decide) (by simpa using hh)))
            have HX2 := Lib.hid hx2
            have b1 : w2.cell? ⟨w.heap.size, 1, none⟩ = some (.slice (some ⟨g, off, none⟩) l.length c) := by rw [cell_of_row _ _ _ _ _ _ hx2]; rfl
            have cp2 : w2.cell? ⟨g, off + k, none⟩ = some (.string p) := by
              obtain ⟨A', c', e9, -, -, h3⟩ := HV.out w2 HM2.out
              obtain ⟨g', off', e8, cq⟩ := h3 k (.string p) (by rw [List.getElem?_map, HPK.out]; rfl)
              have := (Value.slice.inj e9).1
              rw [e8] at this
              cases this
              exact cq
            obtain ⟨A1, c1', rfl⟩ := own_ctor hown
            have HO2 := Lib.hid hown
            have hws2 := HM2.out.size
            clear hown hgrow hat hx2
            go_wp2_with (at_builtin; go_must (refine wpList_app _ rfl _ _ 22 9 rfl w.heap.size 5 i0 (.int .u8 0) 1 1 Tryz.underlying22 hi hz0 hz1 hz2 rfl _ _ _ rfl HO2.out _ p.size (byteCells p) rfl ?e1 ?e2 ?e3 ?e4 ?_))
            case e1 => exact Src.ofString _ Tryz.underlying9 p
            case e2 => unfold maxLen; omega
            case e3 => omega
            case e4 => exact hws2
            intro v2 w3 hown hgrow hat
            have HN : Hid (pre false ++ joinS (l.take (k + 1)) = B ++ [47] ++ p.data.toList) := Lib.hid (by rw [HJS.out, if_neg hk0, ← HBB.out]; simp)
            have HM3 := Lib.hid (HM2.out.grown hgrow (fun x hx => Or.inr (HO2.out.lt x hx).1))
            have HX3 := Lib.hid (((Mods.refl (Value.slice A1 (B.length + 1) c1').ownBlock.toList w2).grown hgrow (fun x hx => Or.inl (by rw [hx]; simp))).heap HX2.out (fun hh => ownsRow_not HO2.out HX2.out (by decide) (by simpa using hh)))
            rw [cells_bytes] at hown
            obtain ⟨A2, c2, rfl⟩ := own_ctor hown
            have HN3 := Lib.hid hown
            clear hown hgrow hat
            go_wp2_with fail
            refine ⟨⟨k + 1, by omega, rfl, HM3.out, HX3.out, ?_⟩, by simp only [intOf]; omega⟩
            rw [HN.out]
            simpa [byteV, Nat.add_assoc, Nat.add_comm 1 p.size] using HN3.out
        · obtain rfl : k = l.length := by omega
          have HRB : Hid (res = mkB (pre false ++ joinS (l.take l.length))) := Lib.hid (by rw [HR.out, List.take_length]; rfl)
          have hlenB : (pre false ++ joinS (l.take l.length)).length ≤ 100000000002 := by have h1 := joinS_bound (k := l.length) hj; have h2 := pre_le false; rw [List.length_append]; omega
          generalize pre false ++ joinS (l.take l.length) = B at *
          have hcv := conv_rd (Rd.of_own HO.out)
          rw [show (⟨B.toArray⟩ : ByteArray) = mkB B from rfl] at hcv
          go_wp2_with fail
          go_ret
          exact ⟨by rw [HRB.out]; rfl, HM.out⟩
  · have HR : Hid (res = mkB (47 :: joinS l)) := Lib.hid (by rw [HP.out]; rfl)
    go_wp2_with (at_builtin; go_must (refine wpList_app _ rfl _ _ 22 22 rfl w.heap.size 5 i0 (.int .u8 0) 1 1 Tryz.underlying22 hi hz0 hz1 hz2 rfl (.slice none 0 0) 0 [] rfl (World.ownsRow_nil _ _ _ _) _ 1 [.int .u8 47] rfl (src_at Tryz.underlying22 (w.alloc (.cells #[.bool true, .slice A l.length c] 103)) [.int .u8 47] 5 (w.heap.size + 1) 1 hsz rfl (by intro u hu; simp at hu; subst hu; rfl)) (by unfold maxLen; omega) (by omega) ?f4 ?_))
    case f4 => first | omega | (simp; done) | (simp; omega)
    intro v0 w1 hown hgrow hat
    have HA1 := Lib.hid ((HA.out.alloc _).grown hgrow (by simp [Value.ownBlock]))
    have HB1 := Lib.hid ((((Mods.refl [] _).alloc _).grown hgrow (by simp [Value.ownBlock])).heap HB.out (by simp))
    obtain ⟨A0, c0', rfl⟩ := own_ctor hown
    have HO0 := Lib.hid hown
    clear hown hgrow hat a0 a1 HA HB
    go_wp2_with fail
    go_loopw [3, 4] (fun v i wr => RelRj true l w.heap.size (.cells #[.bool true, .slice A l.length c] 103 (0, 0)) w v i wr) (fun _ i _ => l.length - (intOf i).toNat)
    case atStart => exact ⟨0, by omega, rfl, HA1.out, HB1.out, by simpa [pre, joinS, Lib.join, List.intercalate, byteV] using HO0.out⟩
    case round =>
      obtain ⟨k, hk, rfl, hm, hbx, ho⟩ := hrel
      obtain ⟨Ab, cb, rfl⟩ := own_ctor ho
      have HM := Lib.hid hm
      have HBX := Lib.hid hbx
      have HO := Lib.hid ho
      have a0 : wr.cell? ⟨w.heap.size, 0, none⟩ = some (.bool true) := by rw [cell_of_row _ _ _ _ _ _ hbx]; rfl
      have a1 : wr.cell? ⟨w.heap.size, 1, none⟩ = some (.slice A l.length c) := by rw [cell_of_row _ _ _ _ _ _ hbx]; rfl
      have hws := hm.size
      have hnb : ∀ v' : Value, ∀ q, v'.ownBlock = some q → True := fun _ _ _ => trivial
      clear hm hbx ho hnb
      rcases Nat.lt_or_ge k l.length with hlt | hge
      · obtain ⟨p, hp⟩ : ∃ p, l[k]? = some p := ⟨_, List.getElem?_eq_getElem hlt⟩
        obtain ⟨A', c', e9, -, -, h3⟩ := HV.out wr HM.out
        obtain ⟨rfl, -, -⟩ := Value.slice.inj e9
        obtain ⟨g, off, rfl, cp⟩ := h3 k (.string p) (by rw [List.getElem?_map, hp]; rfl)
        have HJS := Lib.hid (joinS_step l k p hp)
        have hb1 := joinS_bound (k := k) hj
        have hb2 := piece_bound hp hj
        have hb3 := pre_le true
        have HPK := Lib.hid hp
        clear e9 h3 hp
        have hlen : (pre true ++ joinS (l.take k)).length ≤ 100000000001 := by rw [List.length_append]; omega
        generalize hB : pre true ++ joinS (l.take k) = B at *
        have HBB := Lib.hid hB
        clear hB hb1 hb3
        by_cases hk0 : k = 0
        · subst hk0
          simp only [Nat.add_zero] at cp
          go_wp2_with (at_builtin; go_must (refine wpList_app _ rfl _ _ 22 9 rfl w.heap.size 5 i0 (.int .u8 0) 1 1 Tryz.underlying22 hi hz0 hz1 hz2 rfl _ _ _ rfl HO.out _ p.size (byteCells p) rfl (Src.ofString _ Tryz.underlying9 p) (by unfold maxLen; omega) (by omega) hws ?_))
          intro v2 w3 hown hgrow hat
          have HN : Hid (pre true ++ joinS (l.take (0 + 1)) = B ++ p.data.toList) := Lib.hid (by rw [HJS.out, ← HBB.out]; simp)
          have HM3 := Lib.hid (HM.out.grown hgrow (fun x hx => Or.inr (HO.out.lt x hx).1))
          have HX3 := Lib.hid (((Mods.refl (Value.slice Ab B.length cb).ownBlock.toList wr).grown hgrow (fun x hx => Or.inl (by rw [hx]; simp))).heap HBX.out (fun hh => ownsRow_not HO.out HBX.out (by decide) (by simpa using hh)))
          rw [cells_bytes] at hown
          obtain ⟨A2, c2, rfl⟩ := own_ctor hown
          have HN3 := Lib.hid hown
          clear hown hgrow hat
          go_wp2_with fail
          refine ⟨⟨0 + 1, by omega, rfl, HM3.out, HX3.out, ?_⟩, by simp only [intOf]; omega⟩
          rw [HN.out]
          simpa using HN3.out
        · have hk1 : decide ((0 : Int) < (k : Int)) = true := decide_eq_true (by omega)
          go_wp2_with (at_builtin; go_must (refine wpList_app _ rfl _ _ 22 22 rfl w.heap.size 5 i0 (.int .u8 0) 1 1 Tryz.underlying22 hi hz0 hz1 hz2 rfl _ _ _ rfl (HO.out.alloc _) _ 1 [.int .u8 47] rfl ?d1 ?d2 ?d3 ?d4 ?_))
          case d1 => exact src_one Tryz.underlying22 _ _ _ rfl
          case d2 => unfold maxLen; omega
          case d3 => omega
          case d4 => simp; omega
          intro v1 w2 hown hgrow hat
          have HM2 := Lib.hid ((HM.out.alloc _).grown hgrow (fun x hx => Or.inr (HO.out.lt x hx).1))
          have hx2 := ((((Mods.refl (Value.slice Ab B.length cb).ownBlock.toList wr).alloc _).grown hgrow (fun x hx => Or.inl (by rw [hx]; simp))).heap HBX.out (fun hh => ownsRow_not HO.out HBX.out (by decide) (by simpa using hh)))
          have HX2 := Lib.hid hx2
          have b1 : w2.cell? ⟨w.heap.size, 1, none⟩ = some (.slice (some ⟨g, off, none⟩) l.length c) := by rw [cell_of_row _ _ _ _ _ _ hx2]; rfl
          have cp2 : w2.cell? ⟨g, off + k, none⟩ = some (.string p) := by
            obtain ⟨A', c', e9, -, -, h3⟩ := HV.out w2 HM2.out
            obtain ⟨g', off', e8, cq⟩ := h3 k (.string p) (by rw [List.getElem?_map, HPK.out]; rfl)
            have := (Value.slice.inj e9).1
            rw [e8] at this
            cases this
            exact cq
          obtain ⟨A1, c1', rfl⟩ := own_ctor hown
          have HO2 := Lib.hid hown
          have hws2 := HM2.out.size
          clear hown hgrow hat hx2
          go_wp2_with (at_builtin; go_must (refine wpList_app _ rfl _ _ 22 9 rfl w.heap.size 5 i0 (.int .u8 0) 1 1 Tryz.underlying22 hi hz0 hz1 hz2 rfl _ _ _ rfl HO2.out _ p.size (byteCells p) rfl ?e1 ?e2 ?e3 ?e4 ?_))
          case e1 => exact Src.ofString _ Tryz.underlying9 p
          case e2 => unfold maxLen; omega
          case e3 => omega
          case e4 => exact hws2
          intro v2 w3 hown hgrow hat
          have HN : Hid (pre true ++ joinS (l.take (k + 1)) = B ++ [47] ++ p.data.toList) := Lib.hid (by rw [HJS.out, if_neg hk0, ← HBB.out]; simp)
          have HM3 := Lib.hid (HM2.out.grown hgrow (fun x hx => Or.inr (HO2.out.lt x hx).1))
          have HX3 := Lib.hid (((Mods.refl (Value.slice A1 (B.length + 1) c1').ownBlock.toList w2).grown hgrow (fun x hx => Or.inl (by rw [hx]; simp))).heap HX2.out (fun hh => ownsRow_not HO2.out HX2.out (by decide) (by simpa using hh)))
          rw [cells_bytes] at hown
          obtain ⟨A2, c2, rfl⟩ := own_ctor hown
          have HN3 := Lib.hid hown
          clear hown hgrow hat
          go_wp2_with fail
          refine ⟨⟨k + 1, by omega, rfl, HM3.out, HX3.out, ?_⟩, by simp only [intOf]; omega⟩
          rw [HN.out]
          simpa [byteV, Nat.add_assoc, Nat.add_comm 1 p.size] using HN3.out
      · obtain rfl : k = l.length := by omega
        have HRB : Hid (res = mkB (pre true ++ joinS (l.take l.length))) := Lib.hid (by rw [HR.out, List.take_length]; rfl)
        have hlenB : (pre true ++ joinS (l.take l.length)).length ≤ 100000000002 := by have h1 := joinS_bound (k := l.length) hj; have h2 := pre_le true; rw [List.length_append]; omega
        generalize pre true ++ joinS (l.take l.length) = B at *
        have hcv := conv_rd (Rd.of_own HO.out)
        rw [show (⟨B.toArray⟩ : ByteArray) = mkB B from rfl] at hcv
        go_wp2_with fail
        go_ret
        exact ⟨by rw [HRB.out]; rfl, HM.out⟩
end Go.Proofs.YtmcekhgmmocajaaGreatDoor
