/- The reference's Join. | The reference's Clean, parts, bits. | The reference's ahead, above, find. -/
import Derived.Test.YtmcekhgmmocajaaGreatDoorRc
import Derived.Test.YtmcekhgmmocajaaGreatDoorEo
import Derived.Test.YtmcekhgmmocajaaGreatDoorOd
namespace Go.Proofs.YtmcekhgmmocajaaGreatDoor
open Go.RowKit Me

theorem joinS_step (l : List ByteArray) (k : Nat) (p : ByteArray) (h : l[k]? = some p) : joinS (l.take (k + 1)) = joinS (l.take k) ++ (if k = 0 then [] else [47]) ++ p.data.toList := by
  cases l with
  | nil => simp at h
  | cons x r =>
    cases k with
    | zero =>
      simp at h
      subst h
      simp [joinS, Lib.join, List.intercalate]
    | succ k =>
      simp at h
      have h2 : (r.map (·.data.toList))[k]? = some p.data.toList := by rw [List.getElem?_map, h]; rfl
      unfold joinS
      rw [List.take_succ_cons, List.take_succ_cons, List.map_cons, List.map_cons, Lib.join_cons, Lib.join_cons, List.map_take, List.map_take, Lib.joinTail_take_succ _ _ _ _ h2]
      simp
def pre (r : Bool) : List UInt8 := if r then [47] else []
theorem pre_le (r : Bool) : (pre r).length ≤ 1 := by cases r <;> simp [pre]
theorem cells_bytes (s : ByteArray) : byteCells s = s.data.toList.map byteV := by
  unfold byteCells
  apply List.ext_getElem?
  intro i
  simp
  rfl
theorem joinS_bound {l : List ByteArray} {k : Nat} (hj : lenJ l ≤ 100000000000) : (joinS (l.take k)).length ≤ 100000000000 :=
  Nat.le_trans (joinS_len _) (Nat.le_trans (lenJ_sub (List.take_sublist k l)) hj)
theorem piece_bound {l : List ByteArray} {k : Nat} {p : ByteArray} (h : l[k]? = some p) (hj : lenJ l ≤ 100000000000) : p.size ≤ 100000000000 := by
  have h1 : [p].Sublist l := List.singleton_sublist.2 (List.mem_of_getElem? h)
  have h2 := lenJ_sub h1
  simp [lenJ] at h2
  unfold lenJ at hj
  omega
def RelRj (r : Bool) (l : List ByteArray) (b : Nat) (o : Obj) (w : World) (v i : Value) (wr : World) : Prop :=
  ∃ k : Nat, k ≤ l.length ∧ i = .int .i64 (k : Int) ∧ Mods [] w wr ∧ wr.heap[b]? = some o ∧ wr.ownsRow w.heap.size 5 1 v (pre r ++ joinS (l.take k)).length ((pre r ++ joinS (l.take k)).map byteV)
set_option maxRecDepth 100000 in
set_option maxHeartbeats 2000000 in
theorem rjoin_any (r : Bool) (l : List ByteArray) (v : Value) (w : World) (hv : Rd w v (l.map Value.string)) (hl : l.length ≤ 4294967290) (hj : lenJ l ≤ 100000000000) :
    Calls Tryz.prog 98 #[.agg #[.bool r, v]] w fun e w' => e = .returned (.string (joinP r l)) ∧ Mods [] w w' := by
  obtain ⟨i0, hi, hz0, hz1, hz2⟩ := info_parts info5
  have HV := Lib.hid (fun w' (hw : Mods [] w w') => hv.mods hw (by simp))
  obtain ⟨A, c, rfl, -⟩ := hv
  rw [List.length_map] at *
  have HP := Lib.hid (show joinP r l = if r then mkB (47 :: joinS l) else if l.isEmpty then ⟨#[46]⟩ else mkB (joinS l) from rfl)
  have HB := Lib.hid (heap_alloc_new w (.cells #[.bool r, .slice A l.length c] 103))
  have HA := Lib.hid ((Mods.refl [] w).alloc (.cells #[.bool r, .slice A l.length c] 103))
  have a0 : (w.alloc (.cells #[.bool r, .slice A l.length c] 103)).cell? ⟨w.heap.size, 0, none⟩ = some (.bool r) := by rw [cell_of_row _ _ _ _ _ _ HB.out]; rfl
  have a1 : (w.alloc (.cells #[.bool r, .slice A l.length c] 103)).cell? ⟨w.heap.size, 1, none⟩ = some (.slice A l.length c) := by rw [cell_of_row _ _ _ _ _ _ HB.out]; rfl
  have hsz : (w.alloc (.cells #[.bool r, .slice A l.length c] 103)).heap.size = w.heap.size + 1 := by simp
  go_enter Tryz.func98, Tryz.ntmps98
  generalize hpj : joinP r l = res at *
  cases r
  · by_cases h0 : l = []
    · have HR : Hid (res = ⟨#[46]⟩) := Lib.hid (by rw [HP.out, h0]; rfl)
      subst h0
      simp only [List.length_nil] at *
      go_wp2_with fail
      go_ret
      exact ⟨by rw [HR.out]; rfl, HA.out⟩
    · have hne : (((l.length : Int) == 0) = false) := by simp; exact h0
      have HR : Hid (res = mkB (joinS l)) := Lib.hid (by rw [HP.out]; simp [h0])
      go_wp2_with fail
      generalize w.alloc (.cells #[.bool false, .slice A l.length c] 103) = w1 at *
      clear a0 a1
      go_loopw [3, 4] (fun v i wr => RelRj false l w.heap.size (.cells #[.bool false, .slice A l.length c] 103 (0, 0)) w v i wr) (fun _ i _ => l.length - (intOf i).toNat)
      case atStart => exact ⟨0, by omega, rfl, HA.out, HB.out, World.ownsRow_nil _ _ _ _⟩
      case round =>
        obtain ⟨k, hk, rfl, hm, hbx, ho⟩ := hrel
        obtain ⟨Ab, cb, rfl⟩ := own_ctor ho
        have HM := Lib.hid hm
        have HBX := Lib.hid hbx
        have HO := Lib.hid ho
        have a0 : wr.cell? ⟨w.heap.size, 0, none⟩ = some (.bool false) := by rw [cell_of_row _ _ _ _ _ _ hbx]; rfl
        have a1 : wr.cell? ⟨w.heap.size, 1, none⟩ = some (.slice A l.length c) := by rw [cell_of_row _ _ _ _ _ _ hbx]; rfl
        have hws := hm.size
        have hnb : ∀ v' : Value, ∀ q, v'.ownBlock = some q → True := fun _ _ _ => trivial
        clear hm hbx ho hnb
        rcases Nat.lt_or_ge k l.length with hlt | hge
        · obtain ⟨p, hp⟩ : ∃ p, l[k]? = some p := ⟨_, List.getElem?_eq_getElem hlt⟩
          obtain ⟨A', c', e9, -, -, h3⟩ := HV.out wr HM.out
          obtain ⟨rfl, -, -⟩ := Value.slice.inj e9
          obtain ⟨g, off, rfl, cp⟩ := h3 k (.string p) (by rw [List.getElem?_map, hp]; rfl)
          have HJS := Lib.hid (joinS_step l k p hp)
          have hb1 := joinS_bound (k := k) hj
          have hb2 := piece_bound hp hj
          have hb3 := pre_le false
          have HPK := Lib.hid hp
          clear e9 h3 hp
          have hlen : (pre false ++ joinS (l.take k)).length ≤ 100000000001 := by rw [List.length_append]; omega
          generalize hB : pre false ++ joinS (l.take k) = B at *
          have HBB := Lib.hid hB
          clear hB hb1 hb3
          by_cases hk0 : k = 0
          · subst hk0
            simp only [Nat.add_zero] at cp
            go_wp2_with (at_builtin; go_must (refine wpList_app _ rfl _ _ 22 9 rfl w.heap.size 5 i0 (.int .u8 0) 1 1 Tryz.underlying22 hi hz0 hz1 hz2 rfl _ _ _ rfl HO.out _ p.size (byteCells p) rfl (Src.ofString _ Tryz.underlying9 p) (by unfold maxLen; omega) (by omega) hws ?_))
            intro v2 w3 hown hgrow hat
            have HN : Hid (pre false ++ joinS (l.take (0 + 1)) = B ++ p.data.toList) := Lib.hid (by rw [HJS.out, ← HBB.out]; simp)
            have HM3 := Lib.hid (HM.out.grown hgrow (fun x hx => Or.inr (HO.out.lt x hx).1))
            have HX3 := Lib.hid (((Mods.refl (Value.slice Ab B.length cb).ownBlock.toList wr).grown hgrow (fun x hx => Or.inl (by rw [hx]; simp))).heap HBX.out (fun hh => ownsRow_not HO.out HBX.out (by decide) (by simpa using hh)))
            rw [cells_bytes] at hown
            obtain ⟨A2, c2, rfl⟩ := own_ctor hown
            have HN3 := Lib.hid hown
            clear hown hgrow hat
            go_wp2_with fail
            refine ⟨⟨0 + 1, by omega, rfl, HM3.out, HX3.out, ?_⟩, by simp only [intOf]; omega⟩
            rw [HN.out]
            simpa using HN3.out
          · have hk1 : decide ((0 : Int) < (k : Int)) = true := decide_eq_true (by omega)
            go_wp2_with (at_builtin; go_must (refine wpList_app _ rfl _ _ 22 22 rfl w.heap.size 5 i0 (.int .u8 0) 1 1 Tryz.underlying22 hi hz0 hz1 hz2 rfl _ _ _ rfl (HO.out.alloc _) _ 1 [.int .u8 47] rfl ?d1 ?d2 ?d3 ?d4 ?_))
            case d1 => exact src_one Tryz.underlying22 _ _ _ rfl
            case d2 => unfold maxLen; omega
            case d3 => omega
            case d4 => simp; omega
            intro v1 w2 hown hgrow hat
            have HM2 := Lib.hid ((HM.out.alloc _).grown hgrow (fun x hx => Or.inr (HO.out.lt x hx).1))
            have hx2 := ((((Mods.refl (Value.slice Ab B.length cb).ownBlock.toList wr).alloc _).grown hgrow (fun x hx => Or.inl (by rw [hx]; simp))).heap HBX.out (fun hh => ownsRow_not HO.out HBX.out (by decide) (by simpa using hh)))
            have HX2 := Lib.hid hx2
            have b1 : w2.cell? ⟨w.heap.size, 1, none⟩ = some (.slice (some ⟨g, off, none⟩) l.length c) := by rw [cell_of_row _ _ _ _ _ _ hx2]; rfl
            have cp2 : w2.cell? ⟨g, off + k, none⟩ = some (.string p) := by
              obtain ⟨A', c', e9, -, -, h3⟩ := HV.out w2 HM2.out
              obtain ⟨g', off', e8, cq⟩ := h3 k (.string p) (by rw [List.getElem?_map, HPK.out]; rfl)
              have := (Value.slice.inj e9).1
              rw [e8] at this
              cases this
              exact cq
            obtain ⟨A1, c1', rfl⟩ := own_ctor hown
            have HO2 := Lib.hid hown
            have hws2 := HM2.out.size
            clear hown hgrow hat hx2
            go_wp2_with (at_builtin; go_must (refine wpList_app _ rfl _ _ 22 9 rfl w.heap.size 5 i0 (.int .u8 0) 1 1 Tryz.underlying22 hi hz0 hz1 hz2 rfl _ _ _ rfl HO2.out _ p.size (byteCells p) rfl ?e1 ?e2 ?e3 ?e4 ?_))
            case e1 => exact Src.ofString _ Tryz.underlying9 p
            case e2 => unfold maxLen; omega
            case e3 => omega
            case e4 => exact hws2
            intro v2 w3 hown hgrow hat
            have HN : Hid (pre false ++ joinS (l.take (k + 1)) = B ++ [47] ++ p.data.toList) := Lib.hid (by rw [HJS.out, if_neg hk0, ← HBB.out]; simp)
            have HM3 := Lib.hid (HM2.out.grown hgrow (fun x hx => Or.inr (HO2.out.lt x hx).1))
            have HX3 := Lib.hid (((Mods.refl (Value.slice A1 (B.length + 1) c1').ownBlock.toList w2).grown hgrow (fun x hx => Or.inl (by rw [hx]; simp))).heap HX2.out (fun hh => ownsRow_not HO2.out HX2.out (by decide) (by simpa using hh)))
            rw [cells_bytes] at hown
            obtain ⟨A2, c2, rfl⟩ := own_ctor hown
            have HN3 := Lib.hid hown
            clear hown hgrow hat
            go_wp2_with fail
            refine ⟨⟨k + 1, by omega, rfl, HM3.out, HX3.out, ?_⟩, by simp only [intOf]; omega⟩
            rw [HN.out]
            simpa [byteV, Nat.add_assoc, Nat.add_comm 1 p.size] using HN3.out
        · obtain rfl : k = l.length := by omega
          have HRB : Hid (res = mkB (pre false ++ joinS (l.take l.length))) := Lib.hid (by rw [HR.out, List.take_length]; rfl)
          have hlenB : (pre false ++ joinS (l.take l.length)).length ≤ 100000000002 := by have h1 := joinS_bound (k := l.length) hj; have h2 := pre_le false; rw [List.length_append]; omega
          generalize pre false ++ joinS (l.take l.length) = B at *
          have hcv := conv_rd (Rd.of_own HO.out)
          rw [show (⟨B.toArray⟩ : ByteArray) = mkB B from rfl] at hcv
          go_wp2_with fail
          go_ret
          exact ⟨by rw [HRB.out]; rfl, HM.out⟩
  · have HR : Hid (res = mkB (47 :: joinS l)) := Lib.hid (by rw [HP.out]; rfl)
    go_wp2_with (at_builtin; go_must (refine wpList_app _ rfl _ _ 22 22 rfl w.heap.size 5 i0 (.int .u8 0) 1 1 Tryz.underlying22 hi hz0 hz1 hz2 rfl (.slice none 0 0) 0 [] rfl (World.ownsRow_nil _ _ _ _) _ 1 [.int .u8 47] rfl (src_at Tryz.underlying22 (w.alloc (.cells #[.bool true, .slice A l.length c] 103)) [.int .u8 47] 5 (w.heap.size + 1) 1 hsz rfl (by intro u hu; simp at hu; subst hu; rfl)) (by unfold maxLen; omega) (by omega) ?f4 ?_))
    case f4 => first | omega | (simp; done) | (simp; omega)
    intro v0 w1 hown hgrow hat
    have HA1 := Lib.hid ((HA.out.alloc _).grown hgrow (by simp [Value.ownBlock]))
    have HB1 := Lib.hid ((((Mods.refl [] _).alloc _).grown hgrow (by simp [Value.ownBlock])).heap HB.out (by simp))
    obtain ⟨A0, c0', rfl⟩ := own_ctor hown
    have HO0 := Lib.hid hown
    clear hown hgrow hat a0 a1 HA HB
    go_wp2_with fail
    go_loopw [3, 4] (fun v i wr => RelRj true l w.heap.size (.cells #[.bool true, .slice A l.length c] 103 (0, 0)) w v i wr) (fun _ i _ => l.length - (intOf i).toNat)
    case atStart => exact ⟨0, by omega, rfl, HA1.out, HB1.out, by simpa [pre, joinS, Lib.join, List.intercalate, byteV] using HO0.out⟩
    case round =>
      obtain ⟨k, hk, rfl, hm, hbx, ho⟩ := hrel
      obtain ⟨Ab, cb, rfl⟩ := own_ctor ho
      have HM := Lib.hid hm
      have HBX := Lib.hid hbx
      have HO := Lib.hid ho
      have a0 : wr.cell? ⟨w.heap.size, 0, none⟩ = some (.bool true) := by rw [cell_of_row _ _ _ _ _ _ hbx]; rfl
      have a1 : wr.cell? ⟨w.heap.size, 1, none⟩ = some (.slice A l.length c) := by rw [cell_of_row _ _ _ _ _ _ hbx]; rfl
      have hws := hm.size
      have hnb : ∀ v' : Value, ∀ q, v'.ownBlock = some q → True := fun _ _ _ => trivial
      clear hm hbx ho hnb
      rcases Nat.lt_or_ge k l.length with hlt | hge
      · obtain ⟨p, hp⟩ : ∃ p, l[k]? = some p := ⟨_, List.getElem?_eq_getElem hlt⟩
        obtain ⟨A', c', e9, -, -, h3⟩ := HV.out wr HM.out
        obtain ⟨rfl, -, -⟩ := Value.slice.inj e9
        obtain ⟨g, off, rfl, cp⟩ := h3 k (.string p) (by rw [List.getElem?_map, hp]; rfl)
        have HJS := Lib.hid (joinS_step l k p hp)
        have hb1 := joinS_bound (k := k) hj
        have hb2 := piece_bound hp hj
        have hb3 := pre_le true
        have HPK := Lib.hid hp
        clear e9 h3 hp
        have hlen : (pre true ++ joinS (l.take k)).length ≤ 100000000001 := by rw [List.length_append]; omega
        generalize hB : pre true ++ joinS (l.take k) = B at *
        have HBB := Lib.hid hB
        clear hB hb1 hb3
        by_cases hk0 : k = 0
        · subst hk0
          simp only [Nat.add_zero] at cp
          go_wp2_with (at_builtin; go_must (refine wpList_app _ rfl _ _ 22 9 rfl w.heap.size 5 i0 (.int .u8 0) 1 1 Tryz.underlying22 hi hz0 hz1 hz2 rfl _ _ _ rfl HO.out _ p.size (byteCells p) rfl (Src.ofString _ Tryz.underlying9 p) (by unfold maxLen; omega) (by omega) hws ?_))
          intro v2 w3 hown hgrow hat
          have HN : Hid (pre true ++ joinS (l.take (0 + 1)) = B ++ p.data.toList) := Lib.hid (by rw [HJS.out, ← HBB.out]; simp)
          have HM3 := Lib.hid (HM.out.grown hgrow (fun x hx => Or.inr (HO.out.lt x hx).1))
          have HX3 := Lib.hid (((Mods.refl (Value.slice Ab B.length cb).ownBlock.toList wr).grown hgrow (fun x hx => Or.inl (by rw [hx]; simp))).heap HBX.out (fun hh => ownsRow_not HO.out HBX.out (by decide) (by simpa using hh)))
          rw [cells_bytes] at hown
          obtain ⟨A2, c2, rfl⟩ := own_ctor hown
          have HN3 := Lib.hid hown
          clear hown hgrow hat
          go_wp2_with fail
          refine ⟨⟨0 + 1, by omega, rfl, HM3.out, HX3.out, ?_⟩, by simp only [intOf]; omega⟩
          rw [HN.out]
          simpa using HN3.out
        · have hk1 : decide ((0 : Int) < (k : Int)) = true := decide_eq_true (by omega)
          go_wp2_with (at_builtin; go_must (refine wpList_app _ rfl _ _ 22 22 rfl w.heap.size 5 i0 (.int .u8 0) 1 1 Tryz.underlying22 hi hz0 hz1 hz2 rfl _ _ _ rfl (HO.out.alloc _) _ 1 [.int .u8 47] rfl ?d1 ?d2 ?d3 ?d4 ?_))
          case d1 => exact src_one Tryz.underlying22 _ _ _ rfl
          case d2 => unfold maxLen; omega
          case d3 => omega
          case d4 => simp; omega
          intro v1 w2 hown hgrow hat
          have HM2 := Lib.hid ((HM.out.alloc _).grown hgrow (fun x hx => Or.inr (HO.out.lt x hx).1))
          have hx2 := ((((Mods.refl (Value.slice Ab B.length cb).ownBlock.toList wr).alloc _).grown hgrow (fun x hx => Or.inl (by rw [hx]; simp))).heap HBX.out (fun hh => ownsRow_not HO.out HBX.out (by decide) (by simpa using hh)))
          have HX2 := Lib.hid hx2
          have b1 : w2.cell? ⟨w.heap.size, 1, none⟩ = some (.slice (some ⟨g, off, none⟩) l.length c) := by rw [cell_of_row _ _ _ _ _ _ hx2]; rfl
          have cp2 : w2.cell? ⟨g, off + k, none⟩ = some (.string p) := by
            obtain ⟨A', c', e9, -, -, h3⟩ := HV.out w2 HM2.out
            obtain ⟨g', off', e8, cq⟩ := h3 k (.string p) (by rw [List.getElem?_map, HPK.out]; rfl)
            have := (Value.slice.inj e9).1
            rw [e8] at this
            cases this
            exact cq
          obtain ⟨A1, c1', rfl⟩ := own_ctor hown
          have HO2 := Lib.hid hown
          have hws2 := HM2.out.size
          clear hown hgrow hat hx2
          go_wp2_with (at_builtin; go_must (refine wpList_app _ rfl _ _ 22 9 rfl w.heap.size 5 i0 (.int .u8 0) 1 1 Tryz.underlying22 hi hz0 hz1 hz2 rfl _ _ _ rfl HO2.out _ p.size (byteCells p) rfl ?e1 ?e2 ?e3 ?e4 ?_))
          case e1 => exact Src.ofString _ Tryz.underlying9 p
          case e2 => unfold maxLen; omega
          case e3 => omega
          case e4 => exact hws2
          intro v2 w3 hown hgrow hat
          have HN : Hid (pre true ++ joinS (l.take (k + 1)) = B ++ [47] ++ p.data.toList) := Lib.hid (by rw [HJS.out, if_neg hk0, ← HBB.out]; simp)
          have HM3 := Lib.hid (HM2.out.grown hgrow (fun x hx => Or.inr (HO2.out.lt x hx).1))
          have HX3 := Lib.hid (((Mods.refl (Value.slice A1 (B.length + 1) c1').ownBlock.toList w2).grown hgrow (fun x hx => Or.inl (by rw [hx]; simp))).heap HX2.out (fun hh => ownsRow_not HO2.out HX2.out (by decide) (by simpa using hh)))
          rw [cells_bytes] at hown
          obtain ⟨A2, c2, rfl⟩ := own_ctor hown
          have HN3 := Lib.hid hown
          clear hown hgrow hat
          go_wp2_with fail
          refine ⟨⟨k + 1, by omega, rfl, HM3.out, HX3.out, ?_⟩, by simp only [intOf]; omega⟩
          rw [HN.out]
          simpa [byteV, Nat.add_assoc, Nat.add_comm 1 p.size] using HN3.out
      · obtain rfl : k = l.length := by omega
        have HRB : Hid (res = mkB (pre true ++ joinS (l.take l.length))) := Lib.hid (by rw [HR.out, List.take_length]; rfl)
        have hlenB : (pre true ++ joinS (l.take l.length)).length ≤ 100000000002 := by have h1 := joinS_bound (k := l.length) hj; have h2 := pre_le true; rw [List.length_append]; omega
        generalize pre true ++ joinS (l.take l.length) = B at *
        have hcv := conv_rd (Rd.of_own HO.out)
        rw [show (⟨B.toArray⟩ : ByteArray) = mkB B from rfl] at hcv
        go_wp2_with fail
        go_ret
        exact ⟨by rw [HRB.out]; rfl, HM.out⟩
end Go.Proofs.YtmcekhgmmocajaaGreatDoor
namespace Go.Proofs.YtmcekhgmmocajaaGreatDoor
open Go.RowKit Me

set_option maxRecDepth 100000 in
set_option maxHeartbeats 1000000 in
theorem rclean_any (s : ByteArray) (w : World) (hs : s.size ≤ 200000000) :
    Calls Tryz.prog 61 #[.string s] w fun e w' => e = .returned (.tuple #[.string (if fit (pieces s) then cleanB s else ⟨#[]⟩), .int .i64 (if fit (pieces s) then 0 else 51)]) ∧ Mods [] w w' := by
  have H1 := Lib.hid (rsplit_any s w (by omega))
  have hl := pieces_length s
  have hcb := Lib.countB_le ⟨#[47]⟩ (by decide) _ s (Nat.le_refl _)
  have hk : (kept (pieces s)).length ≤ 4294967290 := by
    refine Nat.le_trans (List.length_filter_le _ _) ?_
    omega
  have hkj : lenJ (kept (pieces s)) ≤ 100000000000 := by
    have := lenJ_sub (show (kept (pieces s)).Sublist (pieces s) from List.filter_sublist)
    rw [lenJ_pieces] at this
    omega
  have HC := Lib.hid (show cleanB s = joinP (rootedB s) (reduce (rootedB s) (kept (pieces s))) from rfl)
  rw [HC.out]
  generalize rootedB s = r at *
  generalize pieces s = P at *
  cases hf : fit P
  · simp only [hf, Bool.false_and, Bool.false_eq_true, if_false] at H1 ⊢
    clear HC hl hcb hk hkj
    go_enter Tryz.func61, Tryz.ntmps61
    go_wp2_with fail
    refine H1.out.mono ?_; rintro e w1 ⟨v, rfl, hm, ho⟩
    obtain ⟨A, c, rfl⟩ := own_ctor ho
    have HM := Lib.hid hm
    clear hm ho
    go_wp2_with fail
    refine bodyPost_ret (v := .tuple #[.string ⟨#[]⟩, .int .i64 51]) (by simp [results, Tryz.results61, go_sem]) rfl ?_
    exact ⟨rfl, HM.out.alloc _⟩
  · simp only [hf, Bool.true_and, if_true] at H1 ⊢
    generalize kept P = L at *
    clear HC hl hcb hf
    go_enter Tryz.func61, Tryz.ntmps61
    go_wp2_with fail
    refine H1.out.mono ?_; rintro e w0 ⟨v, rfl, hm, ho⟩
    obtain ⟨A, c, rfl⟩ := own_ctor ho
    have HM := Lib.hid (hm.alloc (.cells #[.bool r, .slice A L.length c] 103))
    have HR := Lib.hid (rreduced_any r L (.slice A L.length c) (w0.alloc (.cells #[.bool r, .slice A L.length c] 103)) (Rd.of_own (ho.alloc _)) hk)
    clear hm ho H1
    go_wp2_with fail
    generalize w0.alloc (.cells #[.bool r, .slice A L.length c] 103) = w1 at *
    refine HR.out.mono ?_; rintro e w2 ⟨u, rfl, hm, ho⟩
    obtain ⟨A2, c2, rfl⟩ := own_ctor ho
    have HM2 := Lib.hid ((HM.out.trans hm (by simp)).alloc (.cells #[.bool r, .slice A2 (reduce r L).length c2] 103))
    have hrl := reduce_length r L L.length
    rw [List.take_length] at hrl
    have HJ := Lib.hid (rjoin_any r (reduce r L) (.slice A2 (reduce r L).length c2) (w2.alloc (.cells #[.bool r, .slice A2 (reduce r L).length c2] 103)) (Rd.of_own (ho.alloc _)) (by omega) (Nat.le_trans (lenJ_sub (reduce_sub r L)) hkj))
    clear hm ho HR
    go_wp2_with fail
    generalize w2.alloc (.cells #[.bool r, .slice A2 (reduce r L).length c2] 103) = w3 at *
    refine HJ.out.mono ?_; rintro e w4 ⟨rfl, hm⟩
    have HM4 := Lib.hid (HM2.out.trans hm (by simp))
    clear hm HJ
    go_wp2_with fail
    refine bodyPost_ret (v := .tuple #[.string (joinP r (reduce r L)), .int .i64 0]) (by simp [results, Tryz.results61, go_sem]) rfl ?_
    exact ⟨rfl, HM4.out⟩
/-- The parts as the reference tells them. -/
def partsR (s : ByteArray) : List ByteArray := if fit (pieces s) then kept (pieces s) else []
theorem rparts_any (s : ByteArray) (w : World) (hs : s.size ≤ 4294967280) :
    Calls Tryz.prog 101 #[.string s] w fun x w' => ∃ v, x = .returned v ∧ Rd w' v ((partsR s).map Value.string) ∧ Mods [] w w' := by
  have H1 := Lib.hid (rsplit_any s w hs)
  have HP : Hid (∀ w' v, w'.ownsRow w.heap.size 9 1 v (if fit (pieces s) then (kept (pieces s)).length else 0) (if fit (pieces s) then (kept (pieces s)).map Value.string else []) → Rd w' v ((partsR s).map Value.string)) := Lib.hid (fun w' v h => by
    unfold partsR
    split <;> rename_i hf <;> simp only [hf] at h
    · exact Rd.of_own h
    · exact Rd.of_own h)
  generalize partsR s = L at *
  go_enter Tryz.func101, Tryz.ntmps101
  go_wp2_with fail
  refine H1.out.mono ?_; rintro e w1 ⟨v, rfl, hm, ho⟩
  have hr := HP.out w1 v ho
  have HR := Lib.hid (hr.mods ((Mods.refl [] w1).alloc (.cells #[.bool (fit (pieces s) && rootedB s), v] 103)) (by simp))
  have HM := Lib.hid (hm.alloc (.cells #[.bool (fit (pieces s) && rootedB s), v] 103))
  obtain ⟨A, c, rfl, -⟩ := hr
  simp only [List.length_map] at *
  generalize (fit (pieces s) && rootedB s) = rr at *
  generalize (if fit (pieces s) = true then (0 : Int) else 51) = ee at *
  clear hm ho H1 HP
  go_wp2_with fail
  go_ret
  exact ⟨_, rfl, HR.out, HM.out⟩
def seqB : List Nat := [2147483648, 1073741824, 536870912, 67108864]
def restN (m k : Nat) : Nat := (seqB.take k).foldl sub1 m
theorem restN_lt (m k : Nat) (h : m < 4294967296) : restN m k < 4294967296 := by
  unfold restN
  generalize seqB.take k = l
  induction l generalizing m with
  | nil => exact h
  | cons x l ih =>
    refine ih _ ?_
    unfold sub1
    split <;> omega
theorem restN_next (m k x : Nat) (h : seqB[k]? = some x) : restN m (k + 1) = sub1 (restN m k) x := by
  unfold restN
  rw [List.take_add_one, h, List.foldl_append]
  rfl
def RelBi (m : Nat) (w : World) (v i : Value) (wr : World) : Prop := ∃ k : Nat, k ≤ 4 ∧ i = .int .i64 (k : Int) ∧ v = .int .u32 (restN m k : Nat) ∧ w = wr
set_option maxRecDepth 100000 in
theorem bits_any (m : Nat) (w : World) (h : m < 4294967296) :
    Calls Tryz.prog 65 #[.int .u32 (m : Int)] w fun x w' => x = .returned (.bool (decide (bitsRest m < 512))) ∧ Mods [] w w' := by
  have HX := Lib.hid (heap_alloc_new w (.cells #[.int .u32 2147483648, .int .u32 1073741824, .int .u32 536870912, .int .u32 67108864] 45))
  have HM := Lib.hid ((Mods.refl [] w).alloc (.cells #[.int .u32 2147483648, .int .u32 1073741824, .int .u32 536870912, .int .u32 67108864] 45))
  have HE := Lib.hid (show bitsRest m = restN m 4 from rfl)
  go_enter Tryz.func65, Tryz.ntmps65
  go_wp2_with fail
  generalize w.alloc (.cells #[.int .u32 2147483648, .int .u32 1073741824, .int .u32 536870912, .int .u32 67108864] 45) = w1 at *
  go_loopw [3, 9] (fun v i wr => RelBi m w1 v i wr) (fun _ i _ => 4 - (intOf i).toNat)
  case atStart => exact ⟨0, by omega, rfl, rfl, rfl⟩
  case round =>
    obtain ⟨k, hk, rfl, rfl, rfl⟩ := hrel
    have hlt := restN_lt m k h
    rcases Nat.lt_or_ge k 4 with hk4 | hge
    · obtain ⟨x, hx⟩ : ∃ x, seqB[k]? = some x := ⟨_, List.getElem?_eq_getElem hk4⟩
      have hc : w1.cell? ⟨w.heap.size, k, none⟩ = some (.int .u32 (x : Int)) := by
        rw [cell_of_row _ _ _ _ _ _ HX.out]
        rcases (show k = 0 ∨ k = 1 ∨ k = 2 ∨ k = 3 by omega) with rfl | rfl | rfl | rfl <;> (simp [seqB] at hx; subst hx; rfl)
      have HN := Lib.hid (restN_next m k x hx)
      generalize restN m k = cur at *
      clear hx
      by_cases hle : x ≤ cur
      · have HV : Hid (((restN m (k + 1) : Nat) : Int) = (cur : Int) - (x : Int)) := Lib.hid (by rw [HN.out]; unfold sub1; rw [if_pos hle]; omega)
        go_wp2_with fail
        exact ⟨⟨k + 1, by omega, rfl, by rw [HV.out], rfl⟩, by simp only [intOf]; omega⟩
      · have HV : Hid (restN m (k + 1) = cur) := Lib.hid (by rw [HN.out]; unfold sub1; rw [if_neg hle])
        go_wp2_with fail
        exact ⟨⟨k + 1, by omega, rfl, by rw [HV.out], rfl⟩, by simp only [intOf]; omega⟩
    · obtain rfl : k = 4 := by omega
      have HB : Hid (decide (((restN m 4 : Nat) : Int) < 512) = decide (bitsRest m < 512)) := Lib.hid (by rw [HE.out]; exact decide_eq_decide.2 (by omega))
      generalize restN m 4 = cur at *
      go_wp2_with fail
      go_ret
      exact ⟨by rw [← HB.out]; rfl, HM.out⟩
end Go.Proofs.YtmcekhgmmocajaaGreatDoor
namespace Go.Proofs.YtmcekhgmmocajaaGreatDoor
open Go.RowKit Me

theorem cmpB_ne {p q : ByteArray} (h : (p.toList == q.toList) = false) : cmpB p q ≠ 0 ∧ decide (cmpB p q < 0) = Op.bytesLess p.toList q.toList := by
  unfold cmpB lessB
  cases hb : Op.bytesLess p.toList q.toList
  · rw [h]; simp
  · simp
theorem bytesLess_irrefl : ∀ l : List UInt8, Op.bytesLess l l = false
  | [] => rfl
  | a :: l => by
    unfold Op.bytesLess
    simp [bytesLess_irrefl l]
theorem cmpB_eq {p q : ByteArray} (h : (p.toList == q.toList) = true) : cmpB p q = 0 := by
  have e := eq_of_beq h
  unfold cmpB lessB
  rw [e, bytesLess_irrefl]
  simp
def RelAh (w : World) (L M : List ByteArray) (z : Int) (i : Value) (wr : World) : Prop := ∃ k : Nat, k ≤ L.length ∧ k ≤ M.length ∧ i = .int .i64 k ∧ z = cmpL (L.drop k) (M.drop k) ∧ Mods [] w wr
set_option maxRecDepth 100000 in
set_option maxHeartbeats 2000000 in
theorem ahead_any (a b : ByteArray) (w : World) (ha : a.size ≤ 4294967280) (hb : b.size ≤ 4294967280) :
    Calls Tryz.prog 66 #[.string a, .string b] w fun x w' => x = .returned (.bool (decide (cmpL (partsR a) (partsR b) < 0))) ∧ Mods [] w w' := by
  have H1 := Lib.hid (rparts_any a w ha)
  have H2 := Lib.hid (fun w' => rparts_any b w' hb)
  generalize partsR a = L at *
  generalize partsR b = M at *
  go_enter Tryz.func66, Tryz.ntmps66
  go_wp2_with fail
  refine H1.out.mono ?_; rintro x w1 ⟨v, rfl, hr, hm⟩
  have HR := Lib.hid hr
  have HM := Lib.hid hm
  clear hr hm
  obtain ⟨A, c, rfl, -⟩ := HR.out
  go_wp2_with fail
  refine (H2.out _).mono ?_; rintro x w2 ⟨v, rfl, hr, hm⟩
  have HL := Lib.hid (fun w' (hw : Mods [] w2 w') => HR.out.mods (hm.trans hw (by simp)) (by simp))
  have HK := Lib.hid (fun w' (hw : Mods [] w2 w') => hr.mods hw (by simp))
  have HM2 := Lib.hid (HM.out.trans hm (by simp))
  obtain ⟨B, d, rfl, b1, b2, -⟩ := hr
  have hLm : M.length ≤ 9223372036854775807 := by rw [List.length_map] at b1; unfold maxLen at b2; omega
  simp only [List.length_map] at *
  clear hm HR HM b1 b2
  obtain ⟨z, hz⟩ : ∃ z, cmpL L M = z := ⟨_, rfl⟩
  have HZ := Lib.hid hz
  clear hz
  go_wp2_with fail
  go_loopw [7] (fun i wr => RelAh w2 L M z i wr) (fun i _ => M.length - (intOf i).toNat)
  case atStart => exact ⟨0, by omega, by omega, rfl, by rw [← HZ.out]; rfl, Mods.refl _ _⟩
  case round =>
    obtain ⟨k, hk, hk2, rfl, he, hm⟩ := hrel
    have HE := Lib.hid he
    have HMW := Lib.hid (HM2.out.trans hm (by simp))
    have HMK := Lib.hid hm
    clear he
    by_cases hgo : k < L.length ∧ k < M.length
    · obtain ⟨hlt, hlt2⟩ := hgo
      obtain ⟨p, hp⟩ : ∃ p, L[k]? = some p := ⟨_, List.getElem?_eq_getElem hlt⟩
      obtain ⟨q, hq⟩ : ∃ q, M[k]? = some q := ⟨_, List.getElem?_eq_getElem hlt2⟩
      obtain ⟨A', c', e1, -, -, h3⟩ := HL.out wr hm
      obtain ⟨rfl, -, -⟩ := Value.slice.inj e1
      obtain ⟨g, off, rfl, c1⟩ := h3 k (.string p) (by rw [List.getElem?_map, hp]; rfl)
      obtain ⟨B', d', e2, -, -, k3⟩ := HK.out wr hm
      obtain ⟨rfl, -, -⟩ := Value.slice.inj e2
      obtain ⟨g2, off2, rfl, c2⟩ := k3 k (.string q) (by rw [List.getElem?_map, hq]; rfl)
      have HS := Lib.hid (HE.out.trans (cmpL_step L M k p q hp hq))
      clear e1 e2 h3 k3 hp hq hm
      cases hpq : p.toList == q.toList
      · obtain ⟨n1, n2⟩ := cmpB_ne hpq
        rw [if_neg n1] at HS
        have HV : Hid (decide (z < 0) = Op.bytesLess p.toList q.toList) := Lib.hid (by rw [HS.out]; exact n2)
        clear n1 n2
        go_wp2_with fail
        go_quiet (fail)
        go_wp2_with fail
        go_quiet (fail)
        go_wp2_with fail
        go_ret
        exact ⟨by rw [HZ.out, HV.out]; rfl, (HMW.out.drewN _).drewN _⟩
      · rw [if_pos (cmpB_eq hpq)] at HS
        go_wp2_with fail
        go_quiet (fail)
        go_wp2_with fail
        exact ⟨⟨k + 1, by omega, by omega, rfl, HS.out, HMK.out.drewN _⟩, by simp only [intOf]; omega⟩
    · by_cases hkl : k = L.length
      · subst hkl
        by_cases hl : L.length < M.length
        · have HV : Hid (decide (z < 0) = true) := Lib.hid (by rw [HE.out, cmpL_less M L _ (Nat.le_refl _) hl]; rfl)
          clear hm
          go_wp2_with fail
          go_ret
          exact ⟨by rw [HZ.out, HV.out]; rfl, HMW.out⟩
        · have HV : Hid (decide (z < 0) = false) := Lib.hid (by rw [HE.out, cmpL_same M L _ (Nat.le_refl _) (by omega)]; rfl)
          clear hm
          go_wp2_with fail
          go_ret
          exact ⟨by rw [HZ.out, HV.out]; rfl, HMW.out⟩
      · have hkm : k = M.length := by omega
        subst hkm
        have hlt : M.length < L.length := by omega
        have HV : Hid (decide (z < 0) = false) := Lib.hid (by rw [HE.out, cmpL_short L M _ hlt (Nat.le_refl _)]; rfl)
        clear hm
        go_wp2_with fail
        go_ret
        exact ⟨by rw [HZ.out, HV.out]; show Ending.returned (.bool (decide (L.length < M.length))) = _; rw [decide_eq_false (by omega)], HMW.out⟩
end Go.Proofs.YtmcekhgmmocajaaGreatDoor
