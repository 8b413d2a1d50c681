/- The law's parted, ahead, alike, place; the reference's alike. | The law's small entries, their world written out; the like with other bytes. | DumpDiffs, walked up to its loops: what is left there is the second declaration's task. -/
import Derived.Test.YtmcekhgmmocajaaGreatDoorRu
import Derived.Test.YtmcekhgmmocajaaGreatDoorDj
import Derived.Test.YtmcekhgmmocajaaGreatDoorSb
import Derived.Test.YtmcekhgmmocajaaGreatDoorWh
namespace Go.Proofs.YtmcekhgmmocajaaGreatDoor
open Go.RowKit Me

set_option maxRecDepth 100000 in
theorem parted_any (s : ByteArray) (w : World) (hs : s.size ≤ 4294967280) :
    Calls Tryz.prog 42 #[.string s] w fun x w' => ∃ v, x = .returned v ∧ Rd w' v ((partsR s).map Value.string) ∧ Mods [] w w' := by
  have H1 := Lib.hid (rsplit_any s w hs)
  have HP : Hid (∀ w' v, w'.ownsRow w.heap.size 9 1 v (if fit (pieces s) then (kept (pieces s)).length else 0) (if fit (pieces s) then (kept (pieces s)).map Value.string else []) → Rd w' v ((partsR s).map Value.string)) := Lib.hid (fun w' v h => by
    unfold partsR
    split <;> rename_i hf <;> simp only [hf] at h
    · exact Rd.of_own h
    · exact Rd.of_own h)
  generalize partsR s = L at *
  go_enter Tryz.func42, Tryz.ntmps42
  go_wp2_with fail
  refine H1.out.mono ?_; rintro e w1 ⟨v, rfl, hm, ho⟩
  have hr := HP.out w1 v ho
  have HR := Lib.hid (hr.mods ((Mods.refl [] w1).alloc (.cells #[.bool (fit (pieces s) && rootedB s), v] 103)) (by simp))
  have HM := Lib.hid (hm.alloc (.cells #[.bool (fit (pieces s) && rootedB s), v] 103))
  obtain ⟨A, c, rfl, -⟩ := hr
  simp only [List.length_map] at *
  generalize (fit (pieces s) && rootedB s) = rr at *
  generalize (if fit (pieces s) = true then (0 : Int) else 51) = ee at *
  clear hm ho H1 HP
  go_wp2_with fail
  go_ret
  exact ⟨_, rfl, HR.out, HM.out⟩
set_option maxRecDepth 100000 in
set_option maxHeartbeats 2000000 in
theorem lahead_any (a b : ByteArray) (w : World) (ha : a.size ≤ 4294967280) (hb : b.size ≤ 4294967280) :
    Calls Tryz.prog 18 #[.string a, .string b] w fun x w' => x = .returned (.bool (decide (cmpL (partsR a) (partsR b) < 0))) ∧ Mods [] w w' := by
  have H1 := Lib.hid (parted_any a w ha)
  have H2 := Lib.hid (fun w' => parted_any b w' hb)
  generalize partsR a = L at *
  generalize partsR b = M at *
  go_enter Tryz.func18, Tryz.ntmps18
  go_wp2_with fail
  refine H1.out.mono ?_; rintro x w1 ⟨v, rfl, hr, hm⟩
  have HR := Lib.hid hr
  have HM := Lib.hid hm
  clear hr hm
  obtain ⟨A, c, rfl, -⟩ := HR.out
  go_wp2_with fail
  refine (H2.out _).mono ?_; rintro x w2 ⟨v, rfl, hr, hm⟩
  have HL := Lib.hid (fun w' (hw : Mods [] w2 w') => HR.out.mods (hm.trans hw (by simp)) (by simp))
  have HK := Lib.hid (fun w' (hw : Mods [] w2 w') => hr.mods hw (by simp))
  have HM2 := Lib.hid (HM.out.trans hm (by simp))
  obtain ⟨B, d, rfl, b1, b2, -⟩ := hr
  have hLm : M.length ≤ 9223372036854775807 := by rw [List.length_map] at b1; unfold maxLen at b2; omega
  simp only [List.length_map] at *
  clear hm HR HM b1 b2
  obtain ⟨z, hz⟩ : ∃ z, cmpL L M = z := ⟨_, rfl⟩
  have HZ := Lib.hid hz
  clear hz
  go_wp2_with fail
  go_loopw [7] (fun i wr => RelAh w2 L M z i wr) (fun i _ => M.length - (intOf i).toNat)
  case atStart => exact ⟨0, by omega, by omega, rfl, by rw [← HZ.out]; rfl, Mods.refl _ _⟩
  case round =>
    obtain ⟨k, hk, hk2, rfl, he, hm⟩ := hrel
    have HE := Lib.hid he
    have HMW := Lib.hid (HM2.out.trans hm (by simp))
    have HMK := Lib.hid hm
    clear he
    by_cases hgo : k < L.length ∧ k < M.length
    · obtain ⟨hlt, hlt2⟩ := hgo
      obtain ⟨p, hp⟩ : ∃ p, L[k]? = some p := ⟨_, List.getElem?_eq_getElem hlt⟩
      obtain ⟨q, hq⟩ : ∃ q, M[k]? = some q := ⟨_, List.getElem?_eq_getElem hlt2⟩
      obtain ⟨A', c', e1, -, -, h3⟩ := HL.out wr hm
      obtain ⟨rfl, -, -⟩ := Value.slice.inj e1
      obtain ⟨g, off, rfl, c1⟩ := h3 k (.string p) (by rw [List.getElem?_map, hp]; rfl)
      obtain ⟨B', d', e2, -, -, k3⟩ := HK.out wr hm
      obtain ⟨rfl, -, -⟩ := Value.slice.inj e2
      obtain ⟨g2, off2, rfl, c2⟩ := k3 k (.string q) (by rw [List.getElem?_map, hq]; rfl)
      have HS := Lib.hid (HE.out.trans (cmpL_step L M k p q hp hq))
      clear e1 e2 h3 k3 hp hq hm
      cases hpq : p.toList == q.toList
      · obtain ⟨n1, n2⟩ := cmpB_ne hpq
        rw [if_neg n1] at HS
        have HV : Hid (decide (z < 0) = Op.bytesLess p.toList q.toList) := Lib.hid (by rw [HS.out]; exact n2)
        clear n1 n2
        go_wp2_with fail
        go_quiet (fail)
        go_wp2_with fail
        go_quiet (fail)
        go_wp2_with fail
        go_ret
        exact ⟨by rw [HZ.out, HV.out]; rfl, (HMW.out.drewN _).drewN _⟩
      · rw [if_pos (cmpB_eq hpq)] at HS
        go_wp2_with fail
        go_quiet (fail)
        go_wp2_with fail
        exact ⟨⟨k + 1, by omega, by omega, rfl, HS.out, HMK.out.drewN _⟩, by simp only [intOf]; omega⟩
    · by_cases hkl : k = L.length
      · subst hkl
        by_cases hl : L.length < M.length
        · have HV : Hid (decide (z < 0) = true) := Lib.hid (by rw [HE.out, cmpL_less M L _ (Nat.le_refl _) hl]; rfl)
          clear hm
          go_wp2_with fail
          go_ret
          exact ⟨by rw [HZ.out, HV.out]; rfl, HMW.out⟩
        · have HV : Hid (decide (z < 0) = false) := Lib.hid (by rw [HE.out, cmpL_same M L _ (Nat.le_refl _) (by omega)]; rfl)
          clear hm
          go_wp2_with fail
          go_ret
          exact ⟨by rw [HZ.out, HV.out]; rfl, HMW.out⟩
      · have hkm : k = M.length := by omega
        subst hkm
        have hlt : M.length < L.length := by omega
        have HV : Hid (decide (z < 0) = false) := Lib.hid (by rw [HE.out, cmpL_short L M _ hlt (Nat.le_refl _)]; rfl)
        clear hm
        go_wp2_with fail
        go_ret
        exact ⟨by rw [HZ.out, HV.out]; show Ending.returned (.bool (decide (L.length < M.length))) = _; rw [decide_eq_false (by omega)], HMW.out⟩
set_option maxRecDepth 100000 in
set_option maxHeartbeats 1000000 in
theorem lalike_any (e f : EntP) (va vb : Value) (w : World) (ha : Rd w va (e.data.map byteV)) (hb : Rd w vb (f.data.map byteV)) :
    Calls Tryz.prog 19 #[entV e va, entV f vb] w fun x w' => x = .returned (.bool (sameE e f)) ∧ Mods [] w w' := by
  have HA := Lib.hid (fun w' (hw : Mods [] w w') => conv_rd (ha.mods hw (by simp)))
  have HB := Lib.hid (fun w' (hw : Mods [] w w') => conv_rd (hb.mods hw (by simp)))
  obtain ⟨A, c, rfl, -⟩ := ha
  obtain ⟨B, d, rfl, -⟩ := hb
  simp only [List.length_map] at *
  unfold entV
  have hm := ((Mods.refl [] w).alloc (.cells #[.string e.path, .int .u32 (e.mode : Int), .int .u32 (e.mtime : Int), .string e.gid, .slice A e.data.length c] 47)).alloc (.cells #[.string f.path, .int .u32 (f.mode : Int), .int .u32 (f.mtime : Int), .string f.gid, .slice B f.data.length d] 47)
  have k1 := HA.out _ hm
  have k2 := HB.out _ hm
  have HM := Lib.hid hm
  have e0 := str_eqB e.path f.path
  have e1 := nat_eqB e.mode f.mode
  have e2 := nat_eqB e.mtime f.mtime
  have e3 := str_eqB e.gid f.gid
  have e4 : (e.data == f.data) = decide (e.data = f.data) := by
    by_cases h : e.data = f.data
    · rw [decide_eq_true h, h]; simp
    · rw [decide_eq_false h]; simpa using h
  have e5 := bytes_eqB e.data f.data
  clear hm HA HB
  go_enter Tryz.func19, Tryz.ntmps19
  unfold sameE alikeE
  generalize decide (e.path = f.path) = q0 at *
  generalize decide (e.mode = f.mode) = q1 at *
  generalize decide (e.mtime = f.mtime) = q2 at *
  generalize decide (e.gid = f.gid) = q3 at *
  generalize decide (e.data = f.data) = q4 at *
  cases q0
  · go_wp2_with fail
    go_ret
    exact ⟨by simp, HM.out⟩
  cases q1
  · go_wp2_with fail
    go_ret
    exact ⟨by simp, HM.out⟩
  cases q2
  · go_wp2_with fail
    go_ret
    exact ⟨by simp, HM.out⟩
  cases q3
  · go_wp2_with fail
    go_ret
    exact ⟨by simp, HM.out⟩
  go_wp2_with fail
  go_ret
  exact ⟨by simp, HM.out⟩
set_option maxRecDepth 100000 in
set_option maxHeartbeats 1000000 in
theorem ralike_any (e f : EntP) (va vb : Value) (w : World) (ha : Rd w va (e.data.map byteV)) (hb : Rd w vb (f.data.map byteV)) :
    Calls Tryz.prog 118 #[entV e va, entV f vb] w fun x w' => x = .returned (.bool (sameE e f)) ∧ Mods [] w w' := by
  have HA := Lib.hid (fun w' (hw : Mods [] w w') => conv_rd (ha.mods hw (by simp)))
  have HB := Lib.hid (fun w' (hw : Mods [] w w') => conv_rd (hb.mods hw (by simp)))
  obtain ⟨A, c, rfl, -⟩ := ha
  obtain ⟨B, d, rfl, -⟩ := hb
  simp only [List.length_map] at *
  unfold entV
  have hm := ((Mods.refl [] w).alloc (.cells #[.string e.path, .int .u32 (e.mode : Int), .int .u32 (e.mtime : Int), .string e.gid, .slice A e.data.length c] 47)).alloc (.cells #[.string f.path, .int .u32 (f.mode : Int), .int .u32 (f.mtime : Int), .string f.gid, .slice B f.data.length d] 47)
  have k1 := HA.out _ hm
  have k2 := HB.out _ hm
  have HM := Lib.hid hm
  have e0 := str_eqB e.path f.path
  have e1 := nat_eqB e.mode f.mode
  have e2 := nat_eqB e.mtime f.mtime
  have e3 := str_eqB e.gid f.gid
  have e4 : (e.data == f.data) = decide (e.data = f.data) := by
    by_cases h : e.data = f.data
    · rw [decide_eq_true h, h]; simp
    · rw [decide_eq_false h]; simpa using h
  have e5 := bytes_eqB e.data f.data
  clear hm HA HB
  go_enter Tryz.func118, Tryz.ntmps118
  unfold sameE alikeE
  generalize decide (e.path = f.path) = q0 at *
  generalize decide (e.mode = f.mode) = q1 at *
  generalize decide (e.mtime = f.mtime) = q2 at *
  generalize decide (e.gid = f.gid) = q3 at *
  generalize decide (e.data = f.data) = q4 at *
  cases q0
  · go_wp2_with fail
    go_ret
    exact ⟨by simp, HM.out⟩
  cases q1
  · go_wp2_with fail
    go_ret
    exact ⟨by simp, HM.out⟩
  cases q2
  · go_wp2_with fail
    go_ret
    exact ⟨by simp, HM.out⟩
  cases q3
  · go_wp2_with fail
    go_ret
    exact ⟨by simp, HM.out⟩
  go_wp2_with fail
  go_ret
  exact ⟨by simp, HM.out⟩
/-- The place of the first entry of a path, or -1. -/
def placeN (L : List EntP) (s : ByteArray) : Int := match L.findIdx? (fun e => decide (e.path = s)) with
  | none => -1
  | some k => k
def RelPl (w : World) (L : List EntP) (s : ByteArray) (i : Value) (wr : World) : Prop := ∃ k : Nat, k ≤ L.length ∧ i = .int .i64 k ∧ (∀ (j : Nat) (e : EntP), L[j]? = some e → j < k → e.path ≠ s) ∧ wr = w
theorem place_at {L : List EntP} {s : ByteArray} {k : Nat} {e : EntP} (h : L[k]? = some e) (he : e.path = s) (hn : ∀ (j : Nat) (e : EntP), L[j]? = some e → j < k → e.path ≠ s) : placeN L s = k := by
  have : L.findIdx? (fun e => decide (e.path = s)) = some k := by
    rw [List.findIdx?_eq_some_iff_getElem]
    obtain ⟨h1, rfl⟩ := List.getElem?_eq_some_iff.1 h
    refine ⟨h1, by simpa using he, fun j hj => ?_⟩
    simpa using hn j L[j] (List.getElem?_eq_getElem (by omega)) hj
  unfold placeN
  rw [this]
theorem place_none {L : List EntP} {s : ByteArray} (hn : ∀ (j : Nat) (e : EntP), L[j]? = some e → e.path ≠ s) : placeN L s = -1 := by
  have : L.findIdx? (fun e => decide (e.path = s)) = none := by
    rw [List.findIdx?_eq_none_iff]
    intro e he
    obtain ⟨j, hj⟩ := List.mem_iff_getElem?.1 he
    simpa using hn j e hj
  unfold placeN
  rw [this]
set_option maxRecDepth 100000 in
theorem place_any {w : World} (L : List EntP) {v : Value} (s : ByteArray) (h : Ents w v L) :
    Calls Tryz.prog 17 #[v, .string s] w fun x w' => x = .returned (.int .i64 (placeN L s)) ∧ w' = w := by
  have H := Lib.hid h
  obtain ⟨A, c, rfl, h1, h2, -⟩ := h
  have hLm : L.length ≤ 9223372036854775807 := by unfold maxLen at h2; omega
  clear h1 h2
  go_enter Tryz.func17, Tryz.ntmps17
  go_wp2_with fail
  go_loopw [5] (fun i wr => RelPl w L s i wr) (fun i _ => L.length - (intOf i).toNat)
  case atStart => exact ⟨0, by omega, rfl, fun j e _ hj => by omega, rfl⟩
  case round =>
    obtain ⟨k, hk, rfl, hn, rfl⟩ := hrel
    have HN := Lib.hid hn
    clear hn
    rcases Nat.lt_or_ge k L.length with hlt | hge
    · obtain ⟨e, hs⟩ : ∃ e, L[k]? = some e := ⟨_, List.getElem?_eq_getElem hlt⟩
      obtain ⟨g, off, vd, rfl, hrg, -⟩ := H.out.at hs
      have c0 := (range_ent hrg).1
      have e0 := str_eqB e.path s
      have HS := Lib.hid hs
      clear hrg hs
      cases hq : decide (e.path = s)
      · rw [hq] at e0
        have hne := of_decide_eq_false hq
        have HNE := Lib.hid hne
        clear hq hne
        go_wp2_with fail
        refine ⟨⟨k + 1, by omega, rfl, fun j x hx hj => ?_, rfl⟩, by simp only [intOf]; omega⟩
        rcases Nat.lt_or_ge j k with h | h
        · exact HN.out j x hx h
        · obtain rfl : j = k := by omega
          rw [HS.out] at hx
          cases hx
          exact HNE.out
      · rw [hq] at e0
        have HP := Lib.hid (place_at HS.out (of_decide_eq_true hq) HN.out)
        clear hq
        go_wp2_with fail
        go_ret
        exact ⟨by rw [HP.out]; rfl, rfl⟩
    · obtain rfl : k = L.length := by omega
      have HP := Lib.hid (place_none (s := s) fun j e he => HN.out j e he (List.getElem?_eq_some_iff.1 he).1)
      go_wp2_with fail
      go_ret
      exact ⟨by rw [HP.out]; rfl, rfl⟩
end Go.Proofs.YtmcekhgmmocajaaGreatDoor
namespace Go.Proofs.YtmcekhgmmocajaaGreatDoor
open Go.RowKit Me

/-- The world behind small. -/
abbrev smallW (w : World) : World := (w.alloc (.cells #[.int .u8 120, .int .u8 121] 5 (2, 3))).alloc (.cells #[.string ⟨#[46]⟩, .int .u32 2147484141, .int .u32 7, .string ⟨#[103]⟩, .slice none 0 0, .string ⟨#[97]⟩, .int .u32 420, .int .u32 8, .string ⟨#[103]⟩, .slice (some ⟨w.heap.size, 0, none⟩) 2 2] 47)
theorem small_exact (w : World) : Calls Tryz.prog 7 #[] w fun x w' => x = .returned (.slice (some ⟨w.heap.size + 1, 0, none⟩) 2 2) ∧ w' = smallW w := by
  have kc := fun (w : World) (C : Array Value) (n c : Nat) => Lib.run_convert_bytes_const (P := Tryz.prog) w 22 5 C n c Tryz.underlying22 Tryz.underlying5
  go_enter Tryz.func7, Tryz.ntmps7
  go_wp2_with fail
  go_ret
  exact ⟨rfl, rfl⟩
/-- Two entries that are a dump, with these bytes in the second one. -/
def smallZ (l : List UInt8) : List EntP := [⟨⟨#[46]⟩, 2147484141, 7, ⟨#[103]⟩, []⟩, ⟨⟨#[97]⟩, 420, 8, ⟨#[103]⟩, l⟩]
theorem smallZ_may (l : List UInt8) (h : l.length ≤ 65536) : (smallZ l).all mayE = true := by
  simp [smallZ, mayE, po46, po97, g103, modeOk, bitsRest, sub1, isDirN, twoN, ByteArray.size, h]
theorem smallZ_ord (l : List UInt8) : ordE (smallZ l) = true := by
  simp [ordE, smallZ, List.range_succ, ordAt, pp46, pp97, upB, dirsN, isDirN, cmpL]
theorem smallZ_size (l : List UInt8) : sizeL (smallZ l) = 36 + l.length := by
  simp [sizeL, smallZ, EntP.size, ByteArray.size]
  omega
theorem smallZ_enc (l : List UInt8) (h : l.length ≤ 65536) : encP (smallZ l) = (fullD (smallZ l), 0) := by
  unfold encP
  rw [if_neg (by rw [smallZ_may l h]; simp [smallZ]), if_neg (by rw [smallZ_ord]; simp), if_neg (by rw [smallZ_size]; omega)]
theorem smallZ_small (l : List UInt8) (h : l.length ≤ 65536) : ∀ e ∈ smallZ l, Small e := by
  intro e he
  simp only [smallZ, List.mem_cons, List.not_mem_nil, or_false] at he
  rcases he with rfl | rfl
  · exact ⟨⟨by decide, by decide⟩, by simp [ByteArray.size], by simp [ByteArray.size], by simp⟩
  · exact ⟨⟨by show 420 < 4294967296; decide, by show 8 < 4294967296; decide⟩, by simp [ByteArray.size], by simp [ByteArray.size], by show l.length ≤ 100000000; omega⟩
abbrev smallRow (vd : Value) : Array Value := #[.string ⟨#[46]⟩, .int .u32 2147484141, .int .u32 7, .string ⟨#[103]⟩, .slice none 0 0, .string ⟨#[97]⟩, .int .u32 420, .int .u32 8, .string ⟨#[103]⟩, vd]
theorem ents_smallZ {w : World} {b : Nat} {vd : Value} {l : List UInt8} {fr : Nat × Nat} (hb : w.heap[b]? = some (.cells (smallRow vd) 47 fr)) (hr : Rd w vd (l.map byteV)) : Ents w (.slice (some ⟨b, 0, none⟩) 2 2) (smallZ l) := by
  refine ⟨_, 2, rfl, Nat.le_refl _, by unfold maxLen; omega, fun i e he => ?_⟩
  have hcell : ∀ j, w.cell? ⟨b, j, none⟩ = _ := fun j => cell_of_row _ _ j _ _ _ hb
  rcases i with _ | _ | i
  · simp [smallZ] at he
    subst he
    refine ⟨b, 0, .slice none 0 0, rfl, fun j u hu => ?_, ⟨none, 0, rfl, Nat.le_refl _, by unfold maxLen; omega, by simp⟩⟩
    rw [hcell]
    rcases j with _ | _ | _ | _ | _ | j <;> simp [entC] at hu ⊢
    all_goals exact hu
  · simp [smallZ] at he
    subst he
    refine ⟨b, 0, vd, rfl, fun j u hu => ?_, hr⟩
    rw [hcell]
    rcases j with _ | _ | _ | _ | _ | j <;> simp [entC] at hu ⊢
    all_goals exact hu
  · simp [smallZ] at he
theorem smallW_size (w : World) : (smallW w).heap.size = w.heap.size + 2 := by simp [smallW]
theorem smallW_row (w : World) : (smallW w).heap[w.heap.size + 1]? = some (.cells (smallRow (Value.slice (some ⟨w.heap.size, 0, none⟩) 2 2)) 47 (0, 0)) := by
  have h := heap_alloc_new (w.alloc (.cells #[.int .u8 120, .int .u8 121] 5 (2, 3))) (.cells (smallRow (Value.slice (some ⟨w.heap.size, 0, none⟩) 2 2)) 47)
  rw [World.size_alloc] at h
  exact h
theorem smallW_mods (w : World) : Mods [] w (smallW w) := ((Mods.refl [] w).alloc _).alloc _
theorem smallW_ents (w : World) : Ents (smallW w) (.slice (some ⟨w.heap.size + 1, 0, none⟩) 2 2) smallL := by
  refine ents_smallZ (smallW_row w) (l := [120, 121]) ?_
  have hd := Go.heap_alloc_old (w.alloc (.cells #[.int .u8 120, .int .u8 121] 5 (2, 3))) (.cells (smallRow (Value.slice (some ⟨w.heap.size, 0, none⟩) 2 2)) 47) (r := w.heap.size) (by simp)
  rw [heap_alloc_new] at hd
  refine ⟨_, 2, rfl, Nat.le_refl _, by unfold maxLen; omega, fun j u hu => ⟨w.heap.size, 0, rfl, ?_⟩⟩
  rw [cell_of_row _ _ _ _ _ _ hd]
  rcases j with _ | _ | j <;> simp [byteV] at hu ⊢
  all_goals exact hu
/-- Other bytes are laid into the second entry. -/
abbrev zW (ws : World) (b : Nat) (l : List UInt8) (fr : Nat × Nat) : World := (ws.alloc (.cells (l.map byteV).toArray 5 fr)).setCell ⟨b, 9, none⟩ (.slice (some ⟨ws.heap.size, 0, none⟩) l.length l.length)
theorem zW_facts {ws : World} {b : Nat} {vd : Value} (l : List UInt8) (hl : l.length ≤ 100) (fr : Nat × Nat) (hb : ws.heap[b]? = some (.cells (smallRow vd) 47 (0, 0))) :
    Ents (zW ws b l fr) (.slice (some ⟨b, 0, none⟩) 2 2) (smallZ l) ∧ Mods [b] ws (zW ws b l fr) := by
  have hlt := (Array.getElem?_eq_some_iff.1 hb).1
  have h1 := (Go.heap_alloc_old ws (.cells (l.map byteV).toArray 5 fr) hlt).trans hb
  have h2 : (zW ws b l fr).heap[b]? = some (.cells (smallRow (Value.slice (some ⟨ws.heap.size, 0, none⟩) l.length l.length)) 47 (0, 0)) := by
    rw [heap_setCell_same _ _ _ _ _ _ h1]
    rfl
  have h3 : (zW ws b l fr).heap[ws.heap.size]? = some (.cells (l.map byteV).toArray 5 fr) := by
    have := Below.heap_setCell (ws.alloc (.cells (l.map byteV).toArray 5 fr)) ⟨b, 9, none⟩ (.slice (some ⟨ws.heap.size, 0, none⟩) l.length l.length) ws.heap.size (by show ws.heap.size ≠ b; omega)
    exact this.trans (heap_alloc_new ws _)
  refine ⟨ents_smallZ h2 ?_, ((Mods.refl [b] ws).alloc _).setCell (Or.inl (by simp)) _⟩
  refine ⟨_, l.length, by rw [List.length_map], by rw [List.length_map]; exact Nat.le_refl _, by unfold maxLen; omega, fun j u hu => ⟨ws.heap.size, 0, rfl, ?_⟩⟩
  rw [cell_of_row _ _ _ _ _ _ h3]
  simpa using hu
end Go.Proofs.YtmcekhgmmocajaaGreatDoor
namespace Go.Proofs.YtmcekhgmmocajaaGreatDoor
open Go.RowKit Me Go.BigFrame

theorem fullD_head (L : List EntP) : ∃ t, fullD L = 118 :: 100 :: t := ⟨_, rfl⟩
theorem dec_tail (L : List EntP) (hl : (fullD L).length ≤ 100000000) : decP ((fullD L).drop 1) = ([], 210) := by
  obtain ⟨t, ht⟩ := fullD_head L
  rw [ht] at hl ⊢
  rcases dec_cases ((118 :: 100 :: t).drop 1) (by simp at hl ⊢; omega) with ⟨M, h1, h2, -⟩ | h
  · exfalso
    obtain ⟨s, hs⟩ := fullD_head M
    rcases enc_cases M with h3 | ⟨er, he, h3⟩
    · rw [h3, hs] at h2
      simp at h2
    · rw [h3] at h2
      simp at h2
  · exact h
theorem rd_drop1 {w : World} {A : Option Addr} {n c : Nat} {l : List UInt8} (h : Rd w (.slice A n c) (l.map byteV)) (h1 : 1 ≤ l.length) : Rd w (.slice (A.map fun x => { block := x.block, off := x.off + 1 }) (n - 1) (c - 1)) ((l.drop 1).map byteV) := by
  obtain ⟨A', c', e, k1, k2, k3⟩ := h
  obtain ⟨rfl, rfl, rfl⟩ := Value.slice.inj e
  rw [List.length_map] at k1
  refine ⟨_, c - 1, by rw [List.length_map, List.length_map, List.length_drop], by rw [List.length_map, List.length_drop]; omega, by omega, fun i u hu => ?_⟩
  rw [List.getElem?_map, List.getElem?_drop, Nat.add_comm 1 i] at hu
  obtain ⟨g, off, rfl, hc⟩ := k3 (i + 1) u (by rw [List.getElem?_map]; exact hu)
  exact ⟨g, off + 1, rfl, by rw [show off + 1 + i = off + (i + 1) by omega]; exact hc⟩
theorem Chs.at {w : World} {B : Nat} {v : Value} {X : List (ByteArray × Bool × Bool)} (h : Chs w B v X) {k : Nat} {x : ByteArray × Bool × Bool} (hx : X[k]? = some x) :
    ∃ g c, v = .slice (some ⟨g, 0, none⟩) X.length c ∧ w.cell? ⟨g, k * 3, none⟩ = some (.string x.1) ∧ w.cell? ⟨g, k * 3 + 1, none⟩ = some (.bool x.2.1) ∧ w.cell? ⟨g, k * 3 + 2, none⟩ = some (.bool x.2.2) := by
  have hk := (List.getElem?_eq_some_iff.1 hx).1
  rcases h.2 with ⟨-, e⟩ | ⟨g, cap, cur, rfl, hbg, hg, hnc, hcm, hsz, hcur⟩
  · omega
  refine ⟨g, cap, rfl, ?_⟩
  have hc : ∀ j, j < 3 → w.cell? ⟨g, k * 3 + j, none⟩ = (encX x)[j]? := by
    intro j hj
    rw [cell_of_row _ _ _ _ _ _ hg]
    have h1 : (cur.toList.take (X.length * 3))[k * 3 + j]? = (X.flatMap encX)[k * 3 + j]? := by rw [hcur]
    rw [List.getElem?_take, if_pos (by omega), Array.getElem?_toList, flat3 encX (fun _ => rfl), show (k * 3 + j) / 3 = k by omega, show (k * 3 + j) % 3 = j by omega, hx] at h1
    exact h1
  exact ⟨hc 0 (by omega), hc 1 (by omega), hc 2 (by omega)⟩
def RelDs (w : World) (n : Nat) (i : Value) (wr : World) : Prop := ∃ k : Nat, k ≤ n ∧ i = .int .i64 k ∧ Mods [] w wr
/-- What is handed in, made so that it is a dump. -/
def HandZ (w w' : World) (v : Value) (L : List EntP) : Prop := Ents w' v L ∧ (∀ e ∈ L, Small e) ∧ L.length ≤ 100000000 ∧ Mods [] w w' ∧ encP L = (fullD L, 0)
set_option maxRecDepth 100000 in
set_option maxHeartbeats 4000000 in
noncomputable def diffs_c : {P : Prop // Hid P → ∀ (w : World) (L M : List EntP) (v u : Value) (h1 : Ents w v L) (h2 : Ents w u M) (f1 : ∀ e ∈ L, e.Fits) (f2 : ∀ e ∈ M, e.Fits)
    (z1 : ∀ e ∈ L, e.path.size ≤ 140737488355328 ∧ e.gid.size ≤ 140737488355328 ∧ e.data.length ≤ 140737488355328) (z2 : ∀ e ∈ M, e.path.size ≤ 140737488355328 ∧ e.gid.size ≤ 140737488355328 ∧ e.data.length ≤ 140737488355328) (hT : Tabs w),
    Calls Tryz.prog 5 #[v, u] w fun x w' => x = .returned (.bool true) ∧ Mods [] w w'} := Subtype.mk _ (by
  intro hPP w L M v u h1 h2 f1 f2 z1 z2 hT
  have H1 := Lib.hid h1
  have H2 := Lib.hid h2
  have F1 := Lib.hid f1
  have F2 := Lib.hid f2
  have HW := Lib.hid (weight_any L h1 z1)
  have HW2 := Lib.hid (fun w' (hw : Mods [] w w') => weight_any M (h2.mods hw) z2)
  obtain ⟨A, c, rfl, -⟩ := h1
  obtain ⟨B, d, rfl, -⟩ := h2
  clear f1 f2 z1 z2
  go_enter Tryz.func5, Tryz.ntmps5
  go_wp2_with fail
  refine HW.out.mono ?_
  rintro x w1 ⟨⟨q, rfl, hq⟩, hm⟩
  have HM1 := Lib.hid hm
  clear hm HW
  by_cases hb : 67108864 < q
  · have hb2 : (67108864 : Int) < (q : Int) := by omega
    go_wp2_with fail
    go_ret
    exact ⟨rfl, HM1.out⟩
  have hb2 : ¬ (67108864 : Int) < (q : Int) := by omega
  obtain ⟨q1, q2⟩ := hq (by omega)
  have S1 : Hid (∀ e ∈ L, Small e) := Lib.hid (fun e he => ⟨F1.out e he, by have := q1 e he; omega, by have := q1 e he; omega, by have := q1 e he; omega⟩)
  clear hq q1 F1
  go_wp2_with fail
  refine (HW2.out w1 HM1.out).mono ?_
  rintro x w2 ⟨⟨p, rfl, hp⟩, hm⟩
  have HM2 := Lib.hid (HM1.out.trans hm (by simp))
  clear hm HW2 HM1
  by_cases hc : 67108864 < p
  · have hc2 : (67108864 : Int) < (p : Int) := by omega
    go_wp2_with fail
    go_ret
    exact ⟨rfl, HM2.out⟩
  have hc2 : ¬ (67108864 : Int) < (p : Int) := by omega
  obtain ⟨p1, p2⟩ := hp (by omega)
  have S2 : Hid (∀ e ∈ M, Small e) := Lib.hid (fun e he => ⟨F2.out e he, by have := p1 e he; omega, by have := p1 e he; omega, by have := p1 e he; omega⟩)
  clear hp p1 F2
  have hl1 : L.length ≤ 100000000 := by omega
  have hl2 : M.length ≤ 100000000 := by omega
  have HC := Lib.hid (copied_any L (H1.out.mods HM2.out) (fun e he => (S1.out e he).data) hl1)
  go_wp2_with fail
  refine HC.out.mono ?_
  rintro x w3 ⟨v3, rfl, he, hm⟩
  have HM3 := Lib.hid (HM2.out.trans hm (by simp))
  have HR := Lib.hid (rencode_any L he.ents S1.out hl1)
  rw [encPR_eq] at HR
  obtain ⟨A3, c3, rfl, -⟩ := he.ents
  clear he hm HC HM2
  go_wp2_with fail
  refine HR.out.mono ?_
  rintro x w4 ⟨v4, rfl, ho, hm⟩
  have HM4 := Lib.hid (HM3.out.trans hm (by simp))
  have HA4 := Lib.hid (Rd.of_own ho)
  obtain ⟨A4, c4, rfl⟩ := own_ctor ho
  have HC := Lib.hid (copied_any M (H2.out.mods HM4.out) (fun e he => (S2.out e he).data) hl2)
  clear ho hm HR HM3
  go_wp2_with fail
  refine HC.out.mono ?_
  rintro x w5 ⟨v5, rfl, he, hm⟩
  have HM5 := Lib.hid (HM4.out.trans hm (by simp))
  have HA5 := Lib.hid (HA4.out.mods hm (by simp))
  have HR := Lib.hid (rencode_any M he.ents S2.out hl2)
  rw [encPR_eq] at HR
  obtain ⟨A5, c5, rfl, -⟩ := he.ents
  clear he hm HC HM4 HA4
  go_wp2_with fail
  refine HR.out.mono ?_
  rintro x w6 ⟨v6, rfl, ho, hm⟩
  have HM6 := Lib.hid (HM5.out.trans hm (by simp))
  have HA6 := Lib.hid (HA5.out.mods hm (by simp))
  have HB6 := Lib.hid (Rd.of_own ho)
  obtain ⟨A6, c6, rfl⟩ := own_ctor ho
  clear ho hm HR HM5 HA5
  have HE1 := Lib.hid (enc_cases L)
  have HE2 := Lib.hid (enc_cases M)
  generalize hEL : encP L = eL at *
  generalize hEM : encP M = eM at *
  have HEL := Lib.hid hEL
  have HEM := Lib.hid hEM
  clear hEL hEM
  obtain ⟨bL, er1⟩ := eL
  obtain ⟨bM, er2⟩ := eM
  go_upto_if 43 with fail
  go_cut [0, 5, 6] from 22 (fun v0 v5 _ w' => (∃ L1, HandZ w w' v0 L1 ∧ Rd w' v5 ((fullD L1).map byteV)) ∧ Mods [] w6 w')
  case first =>
    rcases HE1.out with he | ⟨er, hne, he⟩
    · obtain ⟨rfl, rfl⟩ := Prod.mk.inj he
      clear he HE1 HE2
      go_wp2_with fail
      go_meet
      case rel => exact ⟨⟨L, ⟨H1.out.mods HM6.out, S1.out, hl1, HM6.out, HEL.out⟩, HA6.out⟩, Mods.refl _ _⟩
    · obtain ⟨rfl, rfl⟩ := Prod.mk.inj he
      have hne2 : (((er1 : Int) != 0) = true) := bne_iff_ne.2 (by omega)
      clear he HE1 HE2
      go_wp2_with fail
      refine (small_any w6).mono ?_
      rintro x w7 ⟨v, rfl, he, hm⟩
      have HR := Lib.hid (rencode_any smallL he small_small (by decide))
      rw [encPR_eq, small_enc] at HR
      have HE7 := Lib.hid (fun w' (hw : Mods [] w7 w') => he.mods hw)
      have HM7 := Lib.hid hm
      obtain ⟨A7, c7, rfl, -⟩ := he
      clear hm
      go_wp2_with fail
      refine HR.out.mono ?_
      rintro x w8 ⟨v, rfl, ho, hm⟩
      have HA8 := Lib.hid (Rd.of_own ho)
      have HE8 := Lib.hid (HE7.out w8 hm)
      have HM8 := Lib.hid (HM7.out.trans hm (by simp))
      obtain ⟨A8, c8, rfl⟩ := own_ctor ho
      clear ho hm HR HE7 HM7
      go_wp2_with fail
      go_meet
      case rel => exact ⟨⟨smallL, ⟨HE8.out, small_small, by decide, HM6.out.trans HM8.out (by simp), small_enc⟩, HA8.out⟩, HM8.out⟩
  case rest =>
    obtain ⟨⟨L1, hh, hra⟩, hm⟩ := hcut
    have HH1 := Lib.hid hh
    have HA7 := Lib.hid hra
    have HB7 := Lib.hid (HB6.out.mods hm (by simp))
    have HM7 := Lib.hid (HM6.out.trans hm (by simp))
    obtain ⟨A1, c1, rfl, -⟩ := hh.1
    obtain ⟨A7, c7, rfl, -⟩ := id hra
    rw [List.length_map] at *
    clear hh hra hm HB6 HM6 HA6 HE1 S1 H1 HEL hl1
    go_upto_if 51 with fail
    go_cut [1, 7, 8] from 22 (fun v1 v7 _ w' => (∃ M1, HandZ w w' v1 M1 ∧ Rd w' v7 ((fullD M1).map byteV)) ∧ Mods [] wc w')
    case first =>
      rcases HE2.out with he | ⟨er, hne, he⟩
      · obtain ⟨rfl, rfl⟩ := Prod.mk.inj he
        clear he HE2
        go_wp2_with fail
        go_meet
        case rel => exact ⟨⟨M, ⟨H2.out.mods HM7.out, S2.out, hl2, HM7.out, HEM.out⟩, HB7.out⟩, Mods.refl _ _⟩
      · obtain ⟨rfl, rfl⟩ := Prod.mk.inj he
        have hne2 : (((er2 : Int) != 0) = true) := bne_iff_ne.2 (by omega)
        have kc := fun (w : World) (C : Array Value) (n c : Nat) => Lib.run_convert_bytes_const (P := Tryz.prog) w 22 5 C n c Tryz.underlying22 Tryz.underlying5
        have HR9 := Lib.hid (smallW_row wc)
        have HM9 := Lib.hid (smallW_mods wc)
        have HSZ := Lib.hid (smallW_size wc)
        clear he HE2
        go_wp2_with fail
        refine (small_exact wc).mono ?_
        rintro x w9 ⟨rfl, rfl⟩
        generalize smallW wc = ws at *
        have hrow := (Go.heap_alloc_old ws (.cells #[.int .u8 122] 5 (1, 2)) (Array.getElem?_eq_some_iff.1 HR9.out).1).trans HR9.out
        have c9 : (ws.alloc (.cells #[.int .u8 122] 5 (1, 2))).cell? ⟨wc.heap.size + 1, 9, none⟩ = some (.slice (some ⟨wc.heap.size, 0, none⟩) 2 2) := by
          rw [cell_of_row _ _ _ _ _ _ hrow]
          rfl
        have f9 : (ws.alloc (.cells #[.int .u8 122] 5 (1, 2))).frozen? ⟨wc.heap.size + 1, 9, none⟩ = false := frozen_of_row _ _ _ _ _ hrow
        have hz := zW_facts [122] (by decide) (1, 2) HR9.out
        have HZE := Lib.hid hz.1
        have HZM := Lib.hid (HM9.out.trans hz.2 (fun x hx => by simp at hx; right; omega))
        have hw : zW ws (wc.heap.size + 1) [122] (1, 2) = (ws.alloc (.cells #[.int .u8 122] 5 (1, 2))).setCell ⟨wc.heap.size + 1, 9, none⟩ (.slice (some ⟨ws.heap.size, 0, none⟩) 1 1) := rfl
        have HR := Lib.hid (rencode_any (smallZ [122]) hz.1 (smallZ_small [122] (by decide)) (by decide))
        rw [encPR_eq, smallZ_enc [122] (by decide)] at HR
        generalize zW ws (wc.heap.size + 1) [122] (1, 2) = wz at *
        have HWZ := Lib.hid hw
        clear hrow hz hw
        go_wp2_with fail
        rw [← HWZ.out]
        refine HR.out.mono ?_
        rintro x w10 ⟨v, rfl, ho, hm⟩
        have HA8 := Lib.hid (Rd.of_own ho)
        have HE8 := Lib.hid (HZE.out.mods hm)
        have HM8 := Lib.hid (HZM.out.trans hm (by simp))
        obtain ⟨A8, c8, rfl⟩ := own_ctor ho
        clear ho hm HR HZE HZM c9 f9 HWZ
        go_wp2_with fail
        go_meet
        case rel => exact ⟨⟨smallZ [122], ⟨HE8.out, smallZ_small [122] (by decide), by decide, HM7.out.trans HM8.out (by simp), smallZ_enc [122] (by decide)⟩, HA8.out⟩, HM8.out⟩
    case rest =>
      obtain ⟨⟨M1, hh, hrb⟩, hm⟩ := hcut
      have hE1 := HH1.out.2.2.2.2
      have hE2 := hh.2.2.2.2
      have hla := enc_fits hE1
      have hlb := enc_fits hE2
      have hd1 := dec_enc hE1 HH1.out.2.1 HH1.out.2.2.1
      have hd2 := dec_enc hE2 hh.2.1 hh.2.2.1
      have hS1 := enc_srt hE1
      have hS2 := enc_srt hE2
      have hA := HA7.out.mods hm (by simp)
      have hM := HM7.out.trans hm (by simp)
      have hN1 := HH1.out.1.mods hm
      have hN2 := hh.1
      have hz1 := HH1.out.2.1
      have hz2 := hh.2.1
      have hy1 := HH1.out.2.2.1
      have hy2 := hh.2.2.1
      have hD1 : diffP (fullD L1) (fullD M1) = (Dg.mrg cmpP EntP.path sameE L1 M1, 0) := by
        unfold diffP
        rw [hd1, hd2, if_neg (by simp)]
      have hD2 : diffP (fullD M1) (fullD L1) = ((Dg.mrg cmpP EntP.path sameE L1 M1).map (fun x => (x.1, x.2.2, x.2.1)), 0) := by
        unfold diffP
        rw [hd1, hd2, if_neg (by simp), Dg.mrg_swap cmpP_ord sameE_symm hS1 hS2]
      have hD3 : diffP (fullD L1) (fullD L1) = ([], 0) := by
        unfold diffP
        rw [hd1, if_neg (by simp), Dg.mrg_self cmpP_ord sameE_self hS1]
      have hD4 : diffP (fullD L1) ((fullD L1).drop 1) = ([], 210) := by
        unfold diffP
        rw [dec_tail L1 (by rw [fullD_length]; omega), if_pos (Or.inr (by decide))]
      have hfa := fullD_length L1
      have hfb := fullD_length M1
      have hla1 : 19 ≤ (fullD L1).length := by omega
      have hla2 : (fullD L1).length ≤ 16777216 := by omega
      have hlb2 : (fullD M1).length ≤ 16777216 := by omega
      have HA := Lib.hid hA
      have HB := Lib.hid hrb
      have HM := Lib.hid hM
      have HN1 := Lib.hid hN1
      have HN2 := Lib.hid hN2
      have HD1 := Lib.hid hD1
      have HD2 := Lib.hid hD2
      have HD3 := Lib.hid hD3
      have HD4 := Lib.hid hD4
      have HS1 := Lib.hid hS1
      have HS2 := Lib.hid hS2
      have HZ1 := Lib.hid hz1
      have HZ2 := Lib.hid hz2
      have HE1 := Lib.hid hE1
      have HE2 := Lib.hid hE2
      obtain ⟨B1, d1, rfl, -⟩ := hh.1
      obtain ⟨B7, d7, rfl, -⟩ := id hrb
      rw [List.length_map] at *
      clear hh hrb hm hE1 hE2 hla hlb hd1 hd2 hS1 hS2 hA hM hN1 hN2 hz1 hz2 hD1 hD2 hD3 hD4 hfa hfb HH1 HA7 HB7 HM7 S2 H2 HEM hl2
      generalize fullD L1 = a at *
      generalize fullD M1 = b at *
      have HQ := Lib.hid (ddiff_any a b HA.out HB.out (by omega) (by omega) (hT.mods HM.out))
      rw [HD1.out] at HQ
      go_wp2_with fail
      refine HQ.out.mono ?_
      rintro x w9 ⟨v9, rfl, ho, hm⟩
      have HX := Lib.hid ho
      have HA9 := Lib.hid (HA.out.mods hm (by simp))
      have HB9 := Lib.hid (HB.out.mods hm (by simp))
      have HM9 := Lib.hid (HM.out.trans hm (by simp))
      have HN19 := Lib.hid (HN1.out.mods hm)
      have HN29 := Lib.hid (HN2.out.mods hm)
      obtain ⟨A9, c9, rfl⟩ := own_ctor ho
      clear ho hm HQ HA HB HM HN1 HN2
      have HQ := Lib.hid (ddiff_any b a HB9.out HA9.out (by omega) (by omega) (hT.mods HM9.out))
      rw [HD2.out] at HQ
      go_wp2_with fail
      refine HQ.out.mono ?_
      rintro x wa ⟨va, rfl, ho, hm⟩
      have HY := Lib.hid ho
      have HXa := Lib.hid (HX.out.mods hm)
      have HAa := Lib.hid (HA9.out.mods hm (by simp))
      have HMa := Lib.hid (HM9.out.trans hm (by simp))
      have HN1a := Lib.hid (HN19.out.mods hm)
      have HN2a := Lib.hid (HN29.out.mods hm)
      obtain ⟨Aa, ca, rfl⟩ := own_ctor ho
      clear ho hm HQ HA9 HB9 HM9 HN19 HN29 HX
      have HQ := Lib.hid (ddiff_any a a HAa.out HAa.out (by omega) (by omega) (hT.mods HMa.out))
      rw [HD3.out] at HQ
      go_wp2_with fail
      refine HQ.out.mono ?_
      rintro x wb ⟨vb, rfl, ho, hm⟩
      have HYb := Lib.hid (HY.out.mods hm)
      have HXb := Lib.hid (HXa.out.mods hm)
      have HAb := Lib.hid (HAa.out.mods hm (by simp))
      have HMb := Lib.hid (HMa.out.trans hm (by simp))
      have HN1b := Lib.hid (HN1a.out.mods hm)
      have HN2b := Lib.hid (HN2a.out.mods hm)
      obtain ⟨Ab, cb, rfl⟩ := own_ctor ho
      clear ho hm HQ HAa HMa HN1a HN2a HXa HY
      have hcc := rd_cap HAb.out
      have hc1 : 1 ≤ c7 := by omega
      have hc2 : c7 ≠ 1 := by omega
      have HQ := Lib.hid (ddiff_any a (a.drop 1) HAb.out (rd_drop1 HAb.out (by omega)) (by omega) (by rw [List.length_drop]; omega) (hT.mods HMb.out))
      rw [HD4.out] at HQ
      go_wp2_with fail
      refine HQ.out.mono ?_
      rintro x wd ⟨vd, rfl, ho, hm⟩
      have HYd := Lib.hid (fun w' (hw : Mods [] wd w') => HYb.out.mods (hm.trans hw (by simp)))
      have HXd := Lib.hid (fun w' (hw : Mods [] wd w') => HXb.out.mods (hm.trans hw (by simp)))
      have HMd := Lib.hid (HMb.out.trans hm (by simp))
      have HN1d := Lib.hid (fun w' (hw : Mods [] wd w') => HN1b.out.mods (hm.trans hw (by simp)))
      have HN2d := Lib.hid (fun w' (hw : Mods [] wd w') => HN2b.out.mods (hm.trans hw (by simp)))
      obtain ⟨Ad, cd, rfl⟩ := own_ctor ho
      clear ho hm HQ HAb HMb HN1b HN2b HXb HYb hcc hc1 hc2 HD1 HD2 HD3 HD4
      have HT := Lib.hid (fun x => Dg.mem_mrg (same := sameE) cmpP_ord L1 M1 HS1.out HS2.out x)
      have HSO := Lib.hid (Dg.mrg_sorted (same := sameE) cmpP_ord L1 M1 HS1.out HS2.out)
      have HLN := Lib.hid (Dg.mrg_length (same := sameE) cmpP_ord HS1.out HS2.out)
      generalize Dg.mrg cmpP EntP.path sameE L1 M1 = X at *
      have hXl : X.length ≤ 200000000 := by
        rw [HLN.out]
        unfold Dg.chg
        rw [List.length_append]
        have h1 : (L1.filterMap (Dg.chg1 EntP.path sameE M1)).length ≤ L1.length := List.length_filterMap_le _ _
        have h2 : (M1.filterMap (Dg.chg2 EntP.path L1)).length ≤ M1.length := List.length_filterMap_le _ _
        omega
      go_wp2_with fail
      clear hla1 hla2 hlb2 hb q2 hb2 hc p2 hc2
      rename_i K0 hK0
      revert w L1 A1 c1 A7 c7 wc u8 u22 u23 u24 u25 u26 u27 u28 u29 u30 u31 u32 u33 u34 u35 u36 u37 u38 u39 u40 u41 u42 u43 u44 u45 u46 u47 u48 u49 u50 u51 u52 u53 u54 u55 u56 u57 u58 u59 u60 u61 u62 u63 u64 u65 u66 u67 u68 u69 u70 u71 u72 u73 u74 u75 u76 u77 u78 u79 u80 u81 u82 u83 u84 u85 u86 u87 u88 u89 u90 u91 u92 u93 u94 u95 u96 u97 u98 u99 u100 u101 u102 u103 u104 u105 u106 u107 u108 u109 u110 u111 u112 u113 u114 u115 u116 u117 u118 u119 u120 u121 u122 u123 u124 u125 u126 u127 u128 u129 u130 u131 u132 u133 u134 u135 u136 u137 u138 u139 u140 u141 u142 u143 u144 u145 u146 u147 u148 u149 u150 u151 u152 u153 u154 u155 u156 u157 u158 u159 u160 u161 u162 u163 u164 u165 u166 u167 u168 u169 u170 u171 u172 u173 u174 u175 u176 u177 u178 u179 u180 u181 u182 u183 u184 u185 u186 u187 u188 u189 u190 u191 u192 u193 u194 u195 u196 u197 u198 u199 u200 u201 u202 u203 u204 u205 u206 u207 u208 u209 u210 u211 u212 u213 u214 u215 u216 u217 u218 u219 u220 u221 u222 u223 u224 u225 u226 u227 u228 u229 u230 u231 u232 u233 u234 u235 u236 u237 u238 u239 u240 u241 u242 u243 u244 u245 u246 u247 u248 u249 u250 u251 u252 u253 u254 u255 u256 u257 u258 u259 u260 u261 u262 u263 u264 u265 u266 u267 u268 u269 u270 u271 u272 u273 u274 u275 M1 B1 d1 B7 d7 a b w9 A9 c9 Aa ca Ab cb wd Ad cd X K0
      exact hPP.out)
end Go.Proofs.YtmcekhgmmocajaaGreatDoor
