/- The law's parted, ahead, alike, place; the reference's alike. | The law's small entries, their world written out; the like with other bytes. | DumpDiffs, walked up to its loops: what is left there is the second declaration's task. -/
import Derived.Test.YtmcekhgmmocajaaGreatDoorRu
import Derived.Test.YtmcekhgmmocajaaGreatDoorDj
import Derived.Test.YtmcekhgmmocajaaGreatDoorSb
import Derived.Test.YtmcekhgmmocajaaGreatDoorWh
namespace Go.Proofs.YtmcekhgmmocajaaGreatDoor
open Go.RowKit Me

set_option maxRecDepth 100000 in
theorem parted_any (s : ByteArray) (w : World) (hs : s.size ≤ 4294967280) :
    Calls Tryz.prog 42 #[.string s] w fun x w' => ∃ v, x = .returned v ∧ Rd w' v ((partsR s).map Value.string) ∧ Mods [] w w' := by
  have H1 := Lib.hid (rsplit_any s w hs)
  have HP : Hid (∀ w' v, w'.ownsRow w.heap.size 9 1 v (if fit (pieces s) then (kept (pieces s)).length else 0) (if fit (pieces s) then (kept (pieces s)).map Value.string else []) → Rd w' v ((partsR s).map Value.string)) := Lib.hid (fun w' v h => by
    unfold partsR
    split <;> rename_i hf <;> simp only [hf] at h
    · exact Rd.of_own h
    · exact Rd.of_own h)
  generalize partsR s = L at *
  go_enter Tryz.func42, Tryz.ntmps42
  go_wp2_with fail
  refine H1.out.mono ?_; rintro e w1 ⟨v, rfl, hm, ho⟩
  have hr := HP.out w1 v ho
  have HR := Lib.hid (hr.mods ((Mods.refl [] w1).alloc (.cells #[.bool (fit (pieces s) && rootedB s), v] 103)) (by simp))
  have HM := Lib.hid (hm.alloc (.cells #[.bool (fit (pieces s) && rootedB s), v] 103))
  obtain ⟨A, c, rfl, -⟩ := hr
  simp only [List.length_map] at *
  generalize (fit (pieces s) && rootedB s) = rr at *
  generalize (if fit (pieces s) = true then (0 : Int) else 51) = ee at *
  clear hm ho H1 HP
  go_wp2_with fail
  go_ret
  exact ⟨_, rfl, HR.out, HM.out⟩
set_option maxRecDepth 100000 in
set_option maxHeartbeats 2000000 in
theorem lahead_any (a b : ByteArray) (w : World) (ha : a.size ≤ 4294967280) (hb : b.size ≤ 4294967280) :
    Calls Tryz.prog 18 #[.string a, .string b] w fun x w' => x = .returned (.bool (decide (cmpL (partsR a) (partsR b) < 0))) ∧ Mods [] w w' := by
  have H1 := Lib.hid (parted_any a w ha)
  have H2 := Lib.hid (fun w' => parted_any b w' hb)
  generalize partsR a = L at *
  generalize partsR b = M at *
  go_enter Tryz.func18, Tryz.ntmps18
  go_wp2_with fail
  refine H1.out.mono ?_; rintro x w1 ⟨v, rfl, hr, hm⟩
  have HR := Lib.hid hr
  have HM := Lib.hid hm
  clear hr hm
  obtain ⟨A, c, rfl, -⟩ := HR.out
  go_wp2_with fail
  refine (H2.out _).mono ?_; rintro x w2 ⟨v, rfl, hr, hm⟩
  have HL := Lib.hid (fun w' (hw : Mods [] w2 w') => HR.out.mods (hm.trans hw (by simp)) (by simp))
  have HK := Lib.hid (fun w' (hw : Mods [] w2 w') => hr.mods hw (by simp))
  have HM2 := Lib.hid (HM.out.trans hm (by simp))
  obtain ⟨B, d, rfl, b1, b2, -⟩ := hr
  have hLm : M.length ≤ 9223372036854775807 := by rw [List.length_map] at b1; unfold maxLen at b2; omega
  simp only [List.length_map] at *
  clear hm HR HM b1 b2
  obtain ⟨z, hz⟩ : ∃ z, cmpL L M = z := ⟨_, rfl⟩
  have HZ := Lib.hid hz
  clear hz
  go_wp2_with fail
  go_loopw [7] (fun i wr => RelAh w2 L M z i wr) (fun i _ => M.length - (intOf i).toNat)
  case atStart => exact ⟨0, by omega, by omega, rfl, by rw [← HZ.out]; rfl, Mods.refl _ _⟩
  case round =>
    obtain ⟨k, hk, hk2, rfl, he, hm⟩ := hrel
    have HE := Lib.hid he
    have HMW := Lib.hid (HM2.out.trans hm (by simp))
    have HMK := Lib.hid hm
    clear he
    by_cases hgo : k < L.length ∧ k < M.length
    · obtain ⟨hlt, hlt2⟩ := hgo
      obtain ⟨p, hp⟩ : ∃ p, L[k]? = some p := ⟨_, List.getElem?_eq_getElem hlt⟩
      obtain ⟨q, hq⟩ : ∃ q, M[k]? = some q := ⟨_, List.getElem?_eq_getElem hlt2⟩
      obtain ⟨A', c', e1, -, -, h3⟩ := HL.out wr hm
      obtain ⟨rfl, -, -⟩ := Value.slice.inj e1
      obtain ⟨g, off, rfl, c1⟩ := h3 k (.string p) (by rw [List.getElem?_map, hp]; rfl)
      obtain ⟨B', d', e2, -, -, k3⟩ := HK.out wr hm
      obtain ⟨rfl, -, -⟩ := Value.slice.inj e2
      obtain ⟨g2, off2, rfl, c2⟩ := k3 k (.string q) (by rw [List.getElem?_map, hq]; rfl)
      have HS := Lib.hid (HE.out.trans (cmpL_step L M k p q hp hq))
      clear e1 e2 h3 k3 hp hq hm
      cases hpq : p.toList == q.toList
      · obtain ⟨n1, n2⟩ := cmpB_ne hpq
        rw [if_neg n1] at HS
        have HV : Hid (decide (z < 0) = Op.bytesLess p.toList q.toList) := Lib.hid (by rw [HS.out]; exact n2)
        clear n1 n2
        go_wp2_with fail
        go_quiet (fail)
        go_wp2_with fail
        go_quiet (fail)
        go_wp2_with fail
        go_ret
        exact ⟨by rw [HZ.out, HV.out]; rfl, (HMW.out.drewN _).drewN _⟩
      · rw [if_pos (cmpB_eq hpq)] at HS
        go_wp2_with fail
        go_quiet (fail)
        go_wp2_with fail
        exact ⟨⟨k + 1, by omega, by omega, rfl, HS.out, HMK.out.drewN _⟩, by simp only [intOf]; omega⟩
    · by_cases hkl : k = L.length
      · subst hkl
        by_cases hl : L.length < M.length
        · have HV : Hid (decide (z < 0) = true) := Lib.hid (by rw [HE.out, cmpL_less M L _ (Nat.le_refl _) hl]; rfl)
          clear hm
          go_wp2_with fail
          go_ret
          exact ⟨by rw [HZ.out, HV.out]; rfl, HMW.out⟩
        · have HV : Hid (decide (z < 0) = false) := Lib.hid (by rw [HE.out, cmpL_same M L _ (Nat.le_refl _) (by omega)]; rfl)
          clear hm
          go_wp2_with fail
          go_ret
          exact ⟨by rw [HZ.out, HV.out]; rfl, HMW.out⟩
      · have hkm : k = M.length := by omega
        subst hkm
        have hlt : M.length < L.length := by omega
        have HV : Hid (decide (z < 0) = false) := Lib.hid (by rw [HE.out, cmpL_short L M _ hlt (Nat.le_refl _)]; rfl)
        clear hm
        go_wp2_with fail
        go_ret
        exact ⟨by rw [HZ.out, HV.out]; show Ending.returned (.bool (decide (L.length < M.length))) = _; rw [decide_eq_false (by omega)], HMW.out⟩
set_option maxRecDepth 100000 in
set_option maxHeartbeats 1000000 in
theorem lalike_any (e f : EntP) (va vb : Value) (w : World) (ha : Rd w va (e.data.map byteV)) (hb : Rd w vb (f.data.map byteV)) :
    Calls Tryz.prog 19 #[entV e va, entV f vb] w fun x w' => x = .returned (.bool (sameE e f)) ∧ Mods [] w w' := by
  have HA := Lib.hid (fun w' (hw : Mods [] w w') => conv_rd (ha.mods hw (by simp)))
  have HB := Lib.hid (fun w' (hw : Mods [] w w') => conv_rd (hb.mods hw (by simp)))
  obtain ⟨A, c, rfl, -⟩ := ha
  obtain ⟨B, d, rfl, -⟩ := hb
  simp only [List.length_map] at *
  unfold entV
  have hm := ((Mods.refl [] w).alloc (.cells #[.string e.path, .int .u32 (e.mode : Int), .int .u32 (e.mtime : Int), .string e.gid, .slice A e.data.length c] 47)).alloc (.cells #[.string f.path, .int .u32 (f.mode : Int), .int .u32 (f.mtime : Int), .string f.gid, .slice B f.data.length d] 47)
  have k1 := HA.out _ hm
  have k2 := HB.out _ hm
  have HM := Lib.hid hm
  have e0 := str_eqB e.path f.path
  have e1 := nat_eqB e.mode f.mode
  have e2 := nat_eqB e.mtime f.mtime
  have e3 := str_eqB e.gid f.gid
  have e4 : (e.data == f.data) = decide (e.data = f.data) := by
    by_cases h : e.data = f.data
    · rw [decide_eq_true h, h]; simp
    · rw [decide_eq_false h]; simpa using h
  have e5 := bytes_eqB e.data f.data
  clear hm HA HB
  go_enter Tryz.func19, Tryz.ntmps19
  unfold sameE alikeE
  generalize decide (e.path = f.path) = q0 at *
  generalize decide (e.mode = f.mode) = q1 at *
  generalize decide (e.mtime = f.mtime) = q2 at *
  generalize decide (e.gid = f.gid) = q3 at *
  generalize decide (e.data = f.data) = q4 at *
  cases q0
  · go_wp2_with fail
    go_ret
    exact ⟨by simp, HM.out⟩
  cases q1
  · go_wp2_with fail
    go_ret
    exact ⟨by simp, HM.out⟩
  cases q2
  · go_wp2_with fail
    go_ret
    exact ⟨by simp, HM.out⟩
  cases q3
  · go_wp2_with fail
    go_ret
    exact ⟨by simp, HM.out⟩
  go_wp2_with fail
  go_ret
  exact ⟨by simp, HM.out⟩
set_option maxRecDepth 100000 in
set_option maxHeartbeats 1000000 in
theorem ralike_any (e f : EntP) (va vb : Value) (w : World) (ha : Rd w va (e.data.map byteV)) (hb : Rd w vb (f.data.map byteV)) :
    Calls Tryz.prog 118 #[entV e va, entV f vb] w fun x w' => x = .returned (.bool (sameE e f)) ∧ Mods [] w w' := by
  have HA := Lib.hid (fun w' (hw : Mods [] w w') => conv_rd (ha.mods hw (by simp)))
  have HB := Lib.hid (fun w' (hw : Mods [] w w') => conv_rd (hb.mods hw (by simp)))
  obtain ⟨A, c, rfl, -⟩ := ha
  obtain ⟨B, d, rfl, -⟩ := hb
  simp only [List.length_map] at *
  unfold entV
  have hm := ((Mods.refl [] w).alloc (.cells #[.string e.path, .int .u32 (e.mode : Int), .int .u32 (e.mtime : Int), .string e.gid, .slice A e.data.length c] 47)).alloc (.cells #[.string f.path, .int .u32 (f.mode : Int), .int .u32 (f.mtime : Int), .string f.gid, .slice B f.data.length d] 47)
  have k1 := HA.out _ hm
  have k2 := HB.out _ hm
  have HM := Lib.hid hm
  have e0 := str_eqB e.path f.path
  have e1 := nat_eqB e.mode f.mode
  have e2 := nat_eqB e.mtime f.mtime
  have e3 := str_eqB e.gid f.gid
  have e4 : (e.data == f.data) = decide (e.data = f.data) := by
    by_cases h : e.data = f.data
    · rw [decide_eq_true h, h]; simp
    · rw [decide_eq_false h]; simpa using h
  have e5 := bytes_eqB e.data f.data
  clear hm HA HB
  go_enter Tryz.func118, Tryz.ntmps118
  unfold sameE alikeE
  generalize decide (e.path = f.path) = q0 at *
  generalize decide (e.mode = f.mode) = q1 at *
  generalize decide (e.mtime = f.mtime) = q2 at *
  generalize decide (e.gid = f.gid) = q3 at *
  generalize decide (e.data = f.data) = q4 at *
  cases q0
  · go_wp2_with fail
    go_ret
    exact ⟨by simp, HM.out⟩
  cases q1
  · go_wp2_with fail
    go_ret
    exact ⟨by simp, HM.out⟩
  cases q2
  · go_wp2_with fail
    go_ret
    exact ⟨by simp, HM.out⟩
  cases q3
  · go_wp2_with fail
    go_ret
    exact ⟨by simp, HM.out⟩
  go_wp2_with fail
  go_ret
  exact ⟨by simp, HM.out⟩
/-- The place of the first entry of a path, or -1. -/
def placeN (L : List EntP) (s : ByteArray) : Int := match L.findIdx? (fun e => decide (e.path = s)) with
  | none => -1
  | some k => k
def RelPl (w : World) (L : List EntP) (s : ByteArray) (i : Value) (wr : World) : Prop := ∃ k : Nat, k ≤ L.length ∧ i = .int .i64 k ∧ (∀ (j : Nat) (e : EntP), L[j]? = some e → j < k → e.path ≠ s) ∧ wr = w
theorem place_at {L : List EntP} {s : ByteArray} {k : Nat} {e : EntP} (h : L[k]? = some e) (he : e.path = s) (hn : ∀ (j : Nat) (e : EntP), L[j]? = some e → j < k → e.path ≠ s) : placeN L s = k := by
  have : L.findIdx? (fun e => decide (e.path = s)) = some k := by
    rw [List.findIdx?_eq_some_iff_getElem]
    obtain ⟨h1, rfl⟩ := List.getElem?_eq_some_iff.1 h
    refine ⟨h1, by simpa using he, fun j hj => ?_⟩
    simpa using hn j L[j] (List.getElem?_eq_getElem (by omega)) hj
  unfold placeN
  rw [this]
theorem place_none {L : List EntP} {s : ByteArray} (hn : ∀ (j : Nat) (e : EntP), L[j]? = some e → e.path ≠ s) : placeN L s = -1 := by
  have : L.findIdx? (fun e => decide (e.path = s)) = none := by
    rw [List.findIdx?_eq_none_iff]
    intro e he
    obtain ⟨j, hj⟩ := List.mem_iff_getElem?.1 he
    simpa using hn j e hj
  unfold placeN
  rw [this]
set_option maxRecDepth 100000 in
theorem place_any {w : World} (L : List EntP) {v : Value} (s : ByteArray) (h : Ents w v L) :
    Calls Tryz.prog 17 #[v, .string s] w fun x w' => x = .returned (.int .i64 (placeN L s)) ∧ w' = w := by
  have H := Lib.hid h
  obtain ⟨A, c, rfl, h1, h2, -⟩ := h
  have hLm : L.length ≤ 9223372036854775807 := by unfold maxLen at h2; omega
  clear h1 h2
  go_enter Tryz.func17, Tryz.ntmps17
  go_wp2_with fail
  go_loopw [5] (fun i wr => RelPl w L s i wr) (fun i _ => L.length - (intOf i).toNat)
  case atStart => exact ⟨0, by omega, rfl, fun j e _ hj => by omega, rfl⟩
  case round =>
    obtain ⟨k, hk, rfl, hn, rfl⟩ := hrel
    have HN := Lib.hid hn
    clear hn
    rcases Nat.lt_or_ge k L.length with hlt | hge
    · obtain ⟨e, hs⟩ : ∃ e, L[k]? = some e := ⟨_, List.getElem?_eq_getElem hlt⟩
      obtain ⟨g, off, vd, rfl, hrg, -⟩ := H.out.at hs
      have c0 := (range_ent hrg).1
      have e0 := str_eqB e.path s
      have HS := Lib.hid hs
      clear hrg hs
      cases hq : decide (e.path = s)
      · rw [hq] at e0
        have hne := of_decide_eq_false hq
        have HNE := Lib.hid hne
        clear hq hne
        go_wp2_with fail
        refine ⟨⟨k + 1, by omega, rfl, fun j x hx hj => ?_, rfl⟩, by simp only [intOf]; omega⟩
        rcases Nat.lt_or_ge j k with h | h
        · exact HN.out j x hx h
        · obtain rfl : j = k := by omega
          rw [HS.out] at hx
          cases hx
          exact HNE.out
      · rw [hq] at e0
        have HP := Lib.hid (place_at HS.out (of_decide_eq_true hq) HN.out)
        clear hq
        go_wp2_with fail
        go_ret
        exact ⟨by rw [HP.out]; rfl, rfl⟩
    · obtain rfl : k = L.length := by omega
      have HP := Lib.hid (place_none (s := s) fun j e he => HN.out j e he (List.getElem?_eq_some_iff.1 he).1)
      go_wp2_with fail
      go_ret
      exact ⟨by rw [HP.out]; rfl, rfl⟩
end Go.Proofs.YtmcekhgmmocajaaGreatDoor
namespace Go.Proofs.YtmcekhgmmocajaaGreatDoor
open Go.RowKit Me

/-- The world behind small. -/
abbrev smallW (w : World) : World := (w.alloc (.cells #[.int .u8 120, .int .u8 121] 5 (2, 3))).alloc (.cells #[.string ⟨#[46]⟩, .int .u32 2147484141, .int .u32 7, .string ⟨#[103]⟩, .slice none 0 0, .string ⟨#[97]⟩, .int .u32 420, .int .u32 8, .string ⟨#[103]⟩, .slice (some ⟨w.heap.size, 0, none⟩) 2 2] 47)
theorem small_exact (w : World) : Calls Tryz.prog 7 #[] w fun x w' => x = .returned (.slice (some ⟨w.heap.size + 1, 0, none⟩) 2 2) ∧ w' = smallW w := by
  have kc := fun (w : World) (C : Array Value) (n c : Nat) => Lib.run_convert_bytes_const (P := Tryz.prog) w 22 5 C n c Tryz.underlying22 Tryz.underlying5
  go_enter Tryz.func7, Tryz.ntmps7
  go_wp2_with fail
  go_ret
  exact ⟨rfl, rfl⟩
/-- Two entries that are a dump, with these bytes in the second one. -/
def smallZ (l : List UInt8) : List EntP := [⟨⟨#[46]⟩, 2147484141, 7, ⟨#[103]⟩, []⟩, ⟨⟨#[97]⟩, 420, 8, ⟨#[103]⟩, l⟩]
theorem smallZ_may (l : List UInt8) (h : l.length ≤ 65536) : (smallZ l).all mayE = true := by
  simp [smallZ, mayE, po46, po97, g103, modeOk, bitsRest, sub1, isDirN, twoN, ByteArray.size, h]
theorem smallZ_ord (l : List UInt8) : ordE (smallZ l) = true := by
  simp [ordE, smallZ, List.range_succ, ordAt, pp46, pp97, upB, dirsN, isDirN, cmpL]
theorem smallZ_size (l : List UInt8) : sizeL (smallZ l) = 36 + l.length := by
  simp [sizeL, smallZ, EntP.size, ByteArray.size]
  omega
theorem smallZ_enc (l : List UInt8) (h : l.length ≤ 65536) : encP (smallZ l) = (fullD (smallZ l), 0) := by
  unfold encP
  rw [if_neg (by rw [smallZ_may l h]; simp [smallZ]), if_neg (by rw [smallZ_ord]; simp), if_neg (by rw [smallZ_size]; omega)]
theorem smallZ_small (l : List UInt8) (h : l.length ≤ 65536) : ∀ e ∈ smallZ l, Small e := by
  intro e he
  simp only [smallZ, List.mem_cons, List.not_mem_nil, or_false] at he
  rcases he with rfl | rfl
  · exact ⟨⟨by decide, by decide⟩, by simp [ByteArray.size], by simp [ByteArray.size], by simp⟩
  · exact ⟨⟨by show 420 < 4294967296; decide, by show 8 < 4294967296; decide⟩, by simp [ByteArray.size], by simp [ByteArray.size], by show l.length ≤ 100000000; omega⟩
abbrev smallRow (vd : Value) : Array Value := #[.string ⟨#[46]⟩, .int .u32 2147484141, .int .u32 7, .string ⟨#[103]⟩, .slice none 0 0, .string ⟨#[97]⟩, .int .u32 420, .int .u32 8, .string ⟨#[103]⟩, vd]
theorem ents_smallZ {w : World} {b : Nat} {vd : Value} {l : List UInt8} {fr : Nat × Nat} (hb : w.heap[b]? = some (.cells (smallRow vd) 47 fr)) (hr : Rd w vd (l.map byteV)) : Ents w (.slice (some ⟨b, 0, none⟩) 2 2) (smallZ l) := by
  refine ⟨_, 2, rfl, Nat.le_refl _, by unfold maxLen; omega, fun i e he => ?_⟩
  have hcell : ∀ j, w.cell? ⟨b, j, none⟩ = _ := fun j => cell_of_row _ _ j _ _ _ hb
  rcases i with _ | _ | i
  · simp [smallZ] at he
    subst he
    refine ⟨b, 0, .slice none 0 0, rfl, fun j u hu => ?_, ⟨none, 0, rfl, Nat.le_refl _, by unfold maxLen; omega, by simp⟩⟩
    rw [hcell]
    rcases j with _ | _ | _ | _ | _ | j <;> simp [entC] at hu ⊢
    all_goals exact hu
  · simp [smallZ] at he
    subst he
    refine ⟨b, 0, vd, rfl, fun j u hu => ?_, hr⟩
    rw [hcell]
    rcases j with _ | _ | _ | _ | _ | j <;> simp [entC] at hu ⊢
    all_goals exact hu
  · simp [smallZ] at he
theorem smallW_size (w : World) : (smallW w).heap.size = w.heap.size + 2 := by simp [smallW]
theorem smallW_row (w : World) : (smallW w).heap[w.heap.size + 1]? = some (.cells (smallRow (Value.slice (some ⟨w.heap.size, 0, none⟩) 2 2)) 47 (0, 0)) := by
  have h := heap_alloc_new (w.alloc (.cells #[.int .u8 120, .int .u8 121] 5 (2, 3))) (.cells (smallRow (Value.slice (some ⟨w.heap.size, 0, none⟩) 2 2)) 47)
  rw [World.size_alloc] at h
  exact h
theorem smallW_mods (w : World) : Mods [] w (smallW w) := ((Mods.refl [] w).alloc _).alloc _
theorem smallW_ents (w : World) : Ents (smallW w) (.slice (some ⟨w.heap.size + 1, 0, none⟩) 2 2) smallL := by
  refine ents_smallZ (smallW_row w) (l := [120, 121]) ?_
  have hd := Go.heap_alloc_old (w.alloc (.cells #[.int .u8 120, .int .u8 121] 5 (2, 3))) (.cells (smallRow (Value.slice (some ⟨w.heap.size, 0, none⟩) 2 2)) 47) (r := w.heap.size) (by simp)
  rw [heap_alloc_new] at hd
  refine ⟨_, 2, rfl, Nat.le_refl _, by unfold maxLen; omega, fun j u hu => ⟨w.heap.size, 0, rfl, ?_⟩⟩
  rw [cell_of_row _ _ _ _ _ _ hd]
  rcases j with _ | _ | j <;> simp [byteV] at hu ⊢
  all_goals exact hu
/-- Other bytes are laid into the second entry. -/
abbrev zW (ws : World) (b : Nat) (l : List UInt8) (fr : Nat × Nat) : World := (ws.alloc (.cells (l.map byteV).toArray 5 fr)).setCell ⟨b, 9, none⟩ (.slice (some ⟨ws.heap.size, 0, none⟩) l.length l.length)
theorem zW_facts {ws : World} {b : Nat} {vd : Value} (l : List UInt8) (hl : l.length ≤ 100) (fr : Nat × Nat) (hb : ws.heap[b]? = some (.cells (smallRow vd) 47 (0, 0))) :
    Ents (zW ws b l fr) (.slice (some ⟨b, 0, none⟩) 2 2) (smallZ l) ∧ Mods [b] ws (zW ws b l fr) := by
  have hlt := (Array.getElem?_eq_some_iff.1 hb).1
  have h1 := (Go.heap_alloc_old ws (.cells (l.map byteV).toArray 5 fr) hlt).trans hb
  have h2 : (zW ws b l fr).heap[b]? = some (.cells (smallRow (Value.slice (some ⟨ws.heap.size, 0, none⟩) l.length l.length)) 47 (0, 0)) := by
    rw [heap_setCell_same _ _ _ _ _ _ h1]
    rfl
  have h3 : (zW ws b l fr).heap[ws.heap.size]? = some (.cells (l.map byteV).toArray 5 fr) := by
    have := Below.heap_setCell (ws.alloc (.cells (l.map byteV).toArray 5 fr)) ⟨b, 9, none⟩ (.slice (some ⟨ws.heap.size, 0, none⟩) l.length l.length) ws.heap.size (by show ws.heap.size ≠ b; omega)
    exact this.trans (heap_alloc_new ws _)
  refine ⟨ents_smallZ h2 ?_, ((Mods.refl [b] ws).alloc _).setCell (Or.inl (by simp)) _⟩
  refine ⟨_, l.length, by rw [List.length_map], by rw [List.length_map]; exact Nat.le_refl _, by unfold maxLen; omega, fun j u hu => ⟨ws.heap.size, 0, rfl, ?_⟩⟩
  rw [cell_of_row _ _ _ _ _ _ h3]
  simpa using hu
end Go.Proofs.YtmcekhgmmocajaaGreatDoor
namespace Go.Proofs.YtmcekhgmmocajaaGreatDoor
open Go.RowKit Me Go.BigFrame

theorem fullD_head (L : List EntP) : ∃ t, fullD L = 118 :: 100 :: t := ⟨_, rfl⟩
theorem dec_tail (L : List EntP) (hl : (fullD L).length ≤ 100000000) : decP ((fullD L).drop 1) = ([], 210) := by
  obtain ⟨t, ht⟩ := fullD_head L
  rw [ht] at hl ⊢
  rcases dec_cases ((118 :: 100 :: t).drop 1) (by simp at hl ⊢; omega) with ⟨M, h1, h2, -⟩ | h
  · exfalso
    obtain ⟨s, hs⟩ := fullD_head M
    rcases enc_cases M with h3 | ⟨er, he, h3⟩
    · rw [h3, hs] at h2
      simp at h2
    · rw [h3] at h2
      simp at h2
  · exact h
theorem rd_drop1 {w : World} {A : Option Addr} {n c : Nat} {l : List UInt8} (h : Rd w (.slice A n c) (l.map byteV)) (h1 : 1 ≤ l.length) : Rd w (.slice (A.map fun x => { block := x.block, off := x.off + 1 }) (n - 1) (c - 1)) ((l.drop 1).map byteV) := by
  obtain ⟨A', c', e, k1, k2, k3⟩ := h
  obtain ⟨rfl, rfl, rfl⟩ := Value.slice.inj e
  rw [List.length_map] at k1
  refine ⟨_, c - 1, by rw [List.length_map, List.length_map, List.length_drop], by rw [List.length_map, List.length_drop]; omega, by omega, fun i u hu => ?_⟩
  rw [List.getElem?_map, List.getElem?_drop, Nat.add_comm 1 i] at hu
  obtain ⟨g, off, rfl, hc⟩ := k3 (i + 1) u (by rw [List.getElem?_map]; exact hu)
  exact ⟨g, off + 1, rfl, by rw [show off + 1 + i = off + (i + 1) by omega]; exact hc⟩
theorem Chs.at {w : World} {B : Nat} {v : Value} {X : List (ByteArray × Bool × Bool)} (h : Chs w B v X) {k : Nat} {x : ByteArray × Bool × Bool} (hx : X[k]? = some x) :
    ∃ g c, v = .slice (some ⟨g, 0, none⟩) X.length c ∧ w.cell? ⟨g, k * 3, none⟩ = some (.string x.1) ∧ w.cell? ⟨g, k * 3 + 1, none⟩ = some (.bool x.2.1) ∧ w.cell? ⟨g, k * 3 + 2, none⟩ = some (.bool x.2.2) := by
  have hk := (List.getElem?_eq_some_iff.1 hx).1
  rcases h.2 with ⟨-, e⟩ | ⟨g, cap, cur, rfl, hbg, hg, hnc, hcm, hsz, hcur⟩
  · omega
  refine ⟨g, cap, rfl, ?_⟩
  have hc : ∀ j, j < 3 → w.cell? ⟨g, k * 3 + j, none⟩ = (encX x)[j]? := by
    intro j hj
    rw [cell_of_row _ _ _ _ _ _ hg]
    have h1 : (cur.toList.take (X.length * 3))[k * 3 + j]? = (X.flatMap encX)[k * 3 + j]? := by rw [hcur]
    rw [List.getElem?_take, if_pos (by omega), Array.getElem?_toList, flat3 encX (fun _ => rfl), show (k * 3 + j) / 3 = k by omega, show (k * 3 + j) % 3 = j by omega, hx] at h1
    exact h1
  exact ⟨hc 0 (by omega), hc 1 (by omega), hc 2 (by omega)⟩
def RelDs (w : World) (n : Nat) (i : Value) (wr : World) : Prop := ∃ k : Nat, k ≤ n ∧ i = .int .i64 k ∧ Mods [] w wr
/-- What is handed in, made so that it is a dump. -/
def HandZ (w w' : World) (v : Value) (L : List EntP) : Prop := Ents w' v L ∧ (∀ e ∈ L, Small e) ∧ L.length ≤ 100000000 ∧ Mods [] w w' ∧ encP L = (fullD L, 0)
theorem enc_may {L : List EntP} {b : List UInt8} (h : encP L = (b, 0)) : ∀ e ∈ L, mayE e = true := by
  unfold encP at h
  split at h
  · simp at h
  · rename_i h1
    simp only [not_or] at h1
    have hall : L.all mayE = true := by simpa using h1.2
    exact fun e he => List.all_eq_true.1 hall e he
end Go.Proofs.YtmcekhgmmocajaaGreatDoor
