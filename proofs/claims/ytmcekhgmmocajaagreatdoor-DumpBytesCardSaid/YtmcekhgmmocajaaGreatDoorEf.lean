/- Small calls on entries: is it a directory, a group's name, the path's parts, may it be. | dump.may, walked. | Lists of entries in memory; is there one that may not be? -/
import Derived.Test.YtmcekhgmmocajaaGreatDoorNl
import Derived.Test.YtmcekhgmmocajaaGreatDoorMo
import Derived.Test.YtmcekhgmmocajaaGreatDoorCg
import Derived.Deep.MidRow
namespace Go.Proofs.YtmcekhgmmocajaaGreatDoor
open Go.RowKit Me

/-- An entry as a value; vd: its bytes. -/
def entV (e : EntP) (vd : Value) : Value := .agg #[.string e.path, .int .u32 (e.mode : Int), .int .u32 (e.mtime : Int), .string e.gid, vd]
theorem isdir_any (e : EntP) (vd : Value) (w : World) (h : e.mode < 4294967296) :
    Calls Tryz.prog 46 #[entV e vd] w fun x w' => x = .returned (.bool (isDirN e.mode)) ∧ Mods [] w w' := by
  have H := Lib.hid (bits_dir e.mode h)
  unfold entV
  go_enter Tryz.func46, Tryz.ntmps46
  go_wp2_with fail
  go_ret
  exact ⟨by rw [H.out]; rfl, (Mods.refl _ _).alloc _⟩
theorem dir_any (m : Nat) (w : World) :
    Calls Tryz.prog 64 #[.int .u32 (m : Int)] w fun x w' => x = .returned (.bool (isDirN m)) ∧ Mods [] w w' := by
  have H := Lib.hid (show decide ((2147483648 : Int) ≤ (m : Int)) = isDirN m from decide_eq_decide.2 (by omega))
  go_enter Tryz.func64, Tryz.ntmps64
  go_wp2_with fail
  go_ret
  exact ⟨by rw [← H.out]; rfl, Mods.refl _ _⟩
def gidOk (s : ByteArray) : Bool := Tx.good s.data.toList && decide (s.size ≤ 32)
theorem goodgid_any (s : ByteArray) (w : World) (hs : s.size ≤ maxLen) (hT : Tabs w) :
    Calls Tryz.prog 47 #[.string s] w fun x w' => x = .returned (.bool (gidOk s)) ∧ Mods [] w w' := by
  have H := Lib.hid (good_any s w hs hT.u)
  have HQ := Lib.hid (show gidOk s = (Tx.good s.data.toList && decide (s.size ≤ 32)) from rfl)
  generalize gidOk s = q at *
  generalize Tx.good s.data.toList = g at *
  go_enter Tryz.func47, Tryz.ntmps47
  go_wp2_with fail
  refine H.out.mono ?_; rintro e w1 ⟨rfl, hb⟩
  have HB := Lib.hid (Mods.below hb [])
  clear hb
  cases g
  all_goals go_wp2_with fail
  all_goals go_ret
  all_goals (refine ⟨?_, HB.out⟩; rw [HQ.out])
  all_goals first | rfl | (simp; done) | (simp; omega)
/-- The parts of an entry's path, as the program cuts them. -/
def partsP (s : ByteArray) : List ByteArray := if s.toList == [46] then [] else pieces s
theorem parts_any (s : ByteArray) (w : World) (hs : s.size < 4294967281) (hT : Tabs w) :
    Calls Tryz.prog 48 #[.string s] w fun x w' => ∃ v, x = .returned v ∧ Rd w' v ((partsP s).map Value.string) ∧ Mods [] w w' := by
  obtain ⟨m, hm⟩ := hT.m
  have H := Lib.hid (Tryz.strings_Split s ⟨#[47]⟩ m w hs hm (by decide))
  have hl := pieces_length s
  rw [show Lib.splitB ⟨#[47]⟩ 0 (Lib.countB s ⟨#[47]⟩) s = pieces s from rfl, ← hl] at H
  have hcb := Lib.countB_le ⟨#[47]⟩ (by decide) _ s (Nat.le_refl _)
  have HQ := Lib.hid (show partsP s = if s.toList == [46] then [] else pieces s from rfl)
  have HL : Hid ((pieces s).length ≤ 4294967290) := Lib.hid (by omega)
  generalize partsP s = q at *
  generalize pieces s = P at *
  clear hl hcb
  cases hc : s.toList == [46]
  · have HQ2 : Hid (q = P) := Lib.hid (by have := HQ.out; rw [hc] at this; exact this)
    go_enter Tryz.func48, Tryz.ntmps48
    go_wp2_with fail
    refine H.out.mono ?_; rintro e w1 ⟨rfl, hb⟩
    obtain rfl := HQ2.out
    have HR : Hid (Rd w1 (.slice (some ⟨w.heap.size, 0, none⟩) q.length q.length) (q.map Value.string)) := Lib.hid (by
      refine ⟨_, q.length, by rw [List.length_map], by rw [List.length_map]; exact Nat.le_refl _, by have := HL.out; unfold maxLen; omega, fun j u hu => ⟨w.heap.size, 0, rfl, ?_⟩⟩
      rw [hb, cell_of_row _ _ _ _ _ _ (heap_alloc_new w _)]
      simpa using hu)
    have HM : Hid (Mods [] w w1) := Lib.hid (by rw [hb]; exact (Mods.refl _ _).alloc _)
    clear hb
    go_wp2_with fail
    go_ret
    exact ⟨_, rfl, HR.out, HM.out⟩
  · have HQ2 : Hid (q = []) := Lib.hid (by have := HQ.out; rw [hc] at this; exact this)
    go_enter Tryz.func48, Tryz.ntmps48
    go_wp2_with fail
    go_ret
    obtain rfl := HQ2.out
    exact ⟨_, rfl, ⟨none, 0, rfl, Nat.le_refl _, by unfold maxLen; omega, by simp⟩, Mods.refl _ _⟩
/-- May a path be an entry's? -/
def pathOk (s : ByteArray) : Bool := fit (pieces s) && ((cleanB s).toList == s.toList) && !Lib.hasPrefix s.data.toList [47] && !(s.toList == [46, 46]) && !Lib.hasPrefix s.data.toList [46, 46, 47]
def modeOk (e : EntP) : Bool := decide (bitsRest e.mode < 512) && !(isDirN e.mode && (twoN e.mode || decide (0 < e.data.length)))
def mayE (e : EntP) : Bool := pathOk e.path && modeOk e && (decide (e.mtime ≠ 4294967295) && gidOk e.gid && decide (e.data.length ≤ 65536) && decide (e.path.size ≤ 65535))
end Go.Proofs.YtmcekhgmmocajaaGreatDoor
namespace Go.Proofs.YtmcekhgmmocajaaGreatDoor
open Go.RowKit Me

theorem Tabs.mods {w w' : World} (hT : Tabs w) (h : Mods [] w w') : Tabs w' := hT.keep (h.toBelow (by simp))
set_option maxRecDepth 100000 in
set_option maxHeartbeats 2000000 in
theorem may_any (e : EntP) (vd : Value) (w : World) (hf : e.Fits) (hv : Rd w vd (e.data.map byteV)) (hp : e.path.size < 4294967281) (hg : e.gid.size ≤ maxLen) (hT : Tabs w) :
    Calls Tryz.prog 22 #[entV e vd] w fun x w' => x = .returned (.bool (mayE e)) ∧ Mods [] w w' := by
  obtain ⟨A, c, rfl, -⟩ := hv
  rw [List.length_map]
  have H1 := Lib.hid (fun w' (hw : Mods [] w w') => nclean_any e.path w' hp (hT.mods hw))
  have H2 := Lib.hid (fun s p w' => Tryz.strings_HasPrefix s p w')
  have H3 := Lib.hid (fun w' => isdir_any e (.slice A e.data.length c) w' hf.mode)
  have H4 := Lib.hid (fun w' (hw : Mods [] w w') => goodgid_any e.gid w' hg (hT.mods hw))
  have B1 := Lib.hid (bits_andNot e.mode hf.mode)
  have B2 := Lib.hid (bits_two e.mode hf.mode)
  have HQ := Lib.hid (show mayE e = (pathOk e.path && (decide (bitsRest e.mode < 512) && !(isDirN e.mode && (twoN e.mode || decide (0 < e.data.length)))) && (decide (e.mtime ≠ 4294967295) && gidOk e.gid && decide (e.data.length ≤ 65536) && decide (e.path.size ≤ 65535))) from rfl)
  have HP := Lib.hid (show pathOk e.path = (fit (pieces e.path) && ((cleanB e.path).toList == e.path.toList) && !Lib.hasPrefix e.path.data.toList [47] && !(e.path.toList == [46, 46]) && !Lib.hasPrefix e.path.data.toList [46, 46, 47]) from rfl)
  have E1 : Hid ((cleanB e.path).toList == e.path.toList → cleanB e.path = e.path) := Lib.hid (fun h => data_inj (by
    have := eq_of_beq h
    rwa [Lib.toList_data, Lib.toList_data] at this))
  clear hf hp hg hT
  unfold entV at *
  obtain ⟨path, mode, mtime, gid, data⟩ := e
  simp only at *
  generalize mayE _ = q at *
  generalize pathOk path = pq at *
  generalize isDirN mode = di at *
  generalize twoN mode = tw at *
  generalize gidOk gid = gq at *
  generalize bitsRest mode = br at *
  generalize data.length = n at *
  generalize cleanB path = cp at *
  have HA := Lib.hid ((Mods.refl [] w).alloc (.cells #[.string path, .int .u32 (mode : Int), .int .u32 (mtime : Int), .string gid, .slice A n c] 47))
  have FIN : Hid (∀ (w1 w2 : World), Mods [] (w.alloc (.cells #[.string path, .int .u32 (mode : Int), .int .u32 (mtime : Int), .string gid, .slice A n c] 47)) w1 → 
      w1.heap[w.heap.size]? = some (.cells #[.string path, .int .u32 (mode : Int), .int .u32 (mtime : Int), .string gid, .slice A n c] 47 (0, 0))) := Lib.hid (fun w1 _ h => h.heap (heap_alloc_new w _) (by simp))
  cases hfit : fit (pieces path)
  · simp only [hfit, Bool.false_and, Bool.false_eq_true, if_false] at H1 HP
    go_enter Tryz.func22, Tryz.ntmps22
    go_wp2_with fail
    refine (H1.out _ HA.out).mono ?_
    rintro x w1 ⟨rfl, hm⟩
    have HM := Lib.hid hm
    clear hm
    go_wp2_with fail
    go_ret
    exact ⟨by rw [HQ.out, HP.out]; rfl, HA.out.trans HM.out (by simp)⟩
  · simp only [hfit, Bool.true_and, if_true] at H1 HP
    cases e1 : cp.toList == path.toList
    · simp only [e1, Bool.false_and] at HP
      go_enter Tryz.func22, Tryz.ntmps22
      go_wp2_with fail
      refine (H1.out _ HA.out).mono ?_
      rintro x w1 ⟨rfl, hm⟩
      have hbx := FIN.out w1 w1 hm
      have c0 := cell_of_row _ _ 0 _ _ _ hbx
      have c1 := cell_of_row _ _ 1 _ _ _ hbx
      have c2 := cell_of_row _ _ 2 _ _ _ hbx
      have c3 := cell_of_row _ _ 3 _ _ _ hbx
      have c4 := cell_of_row _ _ 4 _ _ _ hbx
      simp only [List.getElem?_toArray, List.getElem?_cons_zero, List.getElem?_cons_succ] at c0 c1 c2 c3 c4
      have HM := Lib.hid hm
      clear hm hbx
      go_wp2_with fail
      go_ret
      exact ⟨by rw [HQ.out, HP.out]; rfl, HA.out.trans HM.out (by simp)⟩
    · obtain rfl := E1.out e1
      simp only [e1, Bool.true_and] at HP
      clear E1
      have P1 := Lib.hid (fun w' => H2.out cp ⟨#[47]⟩ w')
      have P2 := Lib.hid (fun w' => H2.out cp ⟨#[46, 46, 47]⟩ w')
      rw [show (⟨#[47]⟩ : ByteArray).data.toList = [47] from rfl] at P1
      rw [show (⟨#[46, 46, 47]⟩ : ByteArray).data.toList = [46, 46, 47] from rfl] at P2
      generalize Lib.hasPrefix cp.data.toList [47] = a1 at *
      generalize Lib.hasPrefix cp.data.toList [46, 46, 47] = a3 at *
      clear H2
      go_enter Tryz.func22, Tryz.ntmps22
      go_wp2_with fail
      refine (H1.out _ HA.out).mono ?_
      rintro x w1 ⟨rfl, hm⟩
      have hbx := FIN.out w1 w1 hm
      have c0 := cell_of_row _ _ 0 _ _ _ hbx
      have c1 := cell_of_row _ _ 1 _ _ _ hbx
      have c2 := cell_of_row _ _ 2 _ _ _ hbx
      have c3 := cell_of_row _ _ 3 _ _ _ hbx
      have c4 := cell_of_row _ _ 4 _ _ _ hbx
      simp only [List.getElem?_toArray, List.getElem?_cons_zero, List.getElem?_cons_succ] at c0 c1 c2 c3 c4
      have HM := Lib.hid (HA.out.trans hm (by simp))
      have HBX := Lib.hid hbx
      clear hm hbx H1
      cases a1
      rotate_left
      · go_wp2_with fail
        (refine (P1.out _).mono ?_; rintro x w2 ⟨rfl, rfl⟩)
        go_wp2_with fail
        go_ret
        exact ⟨by rw [HQ.out, HP.out]; rfl, HM.out⟩
      cases e2 : cp.toList == [46, 46]
      rotate_left
      · simp only [e2] at HP
        go_wp2_with fail
        (refine (P1.out _).mono ?_; rintro x w2 ⟨rfl, rfl⟩)
        go_wp2_with fail
        go_ret
        exact ⟨by rw [HQ.out, HP.out]; rfl, HM.out⟩
      cases a3
      rotate_left
      · go_wp2_with fail
        (refine (P1.out _).mono ?_; rintro x w2 ⟨rfl, rfl⟩)
        go_wp2_with fail
        (refine (P2.out _).mono ?_; rintro x w2 ⟨rfl, rfl⟩)
        go_wp2_with fail
        go_ret
        exact ⟨by rw [HQ.out, HP.out]; simp, HM.out⟩
      simp only [e2] at HP
      by_cases hbr : 512 ≤ br
      · rw [decide_eq_true hbr] at B1
        rw [show decide (br < 512) = false from decide_eq_false (by omega)] at HQ
        have b1 := B1.out
        go_wp2_with fail
        (refine (P1.out _).mono ?_; rintro x w2 ⟨rfl, rfl⟩)
        go_wp2_with fail
        (refine (P2.out _).mono ?_; rintro x w2 ⟨rfl, rfl⟩)
        go_wp2_with fail
        go_ret
        exact ⟨by rw [HQ.out, HP.out]; simp, HM.out⟩
      · rw [decide_eq_false hbr] at B1
        rw [show decide (br < 512) = true from decide_eq_true (by omega)] at HQ
        have HSZ := Lib.hid (show decide ((cp.size : Int) ≤ 65535) = decide (cp.size ≤ 65535) from decide_eq_decide.2 (by omega))
        have b1 := B1.out
        go_wp2_with fail
        refine (P1.out _).mono ?_
        rintro x w2 ⟨rfl, rfl⟩
        go_wp2_with fail
        refine (P2.out _).mono ?_
        rintro x w2 ⟨rfl, rfl⟩
        go_wp2_with fail
        refine (H3.out _).mono ?_
        rintro x w3 ⟨rfl, hm⟩
        have hbx := hm.heap HBX.out (by simp)
        have c0 := cell_of_row _ _ 0 _ _ _ hbx
        have c1 := cell_of_row _ _ 1 _ _ _ hbx
        have c2 := cell_of_row _ _ 2 _ _ _ hbx
        have c3 := cell_of_row _ _ 3 _ _ _ hbx
        have c4 := cell_of_row _ _ 4 _ _ _ hbx
        simp only [List.getElem?_toArray, List.getElem?_cons_zero, List.getElem?_cons_succ] at c0 c1 c2 c3 c4
        have HBX3 := Lib.hid hbx
        have HM3 := Lib.hid (HM.out.trans hm (by simp))
        clear hm hbx HM HBX
        have HM := HM3
        have HBX := HBX3
        clear HM3 HBX3
        cases di
        · by_cases hmt : mtime = 4294967295
          · subst hmt
            go_wp2_with fail
            go_ret
            exact ⟨by rw [HQ.out, HP.out]; simp [], HM.out⟩
          · have hmt2 : ((mtime : Int) != 4294967295) = true := bne_iff_ne.2 (by omega)
            go_wp2_with fail
            refine (H4.out _ HM.out).mono ?_
            rintro x w4 ⟨rfl, hm⟩
            have hbx := hm.heap HBX.out (by simp)
            have c0 := cell_of_row _ _ 0 _ _ _ hbx
            have c1 := cell_of_row _ _ 1 _ _ _ hbx
            have c2 := cell_of_row _ _ 2 _ _ _ hbx
            have c3 := cell_of_row _ _ 3 _ _ _ hbx
            have c4 := cell_of_row _ _ 4 _ _ _ hbx
            simp only [List.getElem?_toArray, List.getElem?_cons_zero, List.getElem?_cons_succ] at c0 c1 c2 c3 c4
            have HM4 := Lib.hid (HM.out.trans hm (by simp))
            clear hm hbx
            cases gq
            · go_wp2_with fail
              go_ret
              exact ⟨by rw [HQ.out, HP.out]; simp, HM4.out⟩
            · by_cases hn6 : n ≤ 65536
              · go_wp2_with fail
                go_ret
                exact ⟨by rw [HQ.out, HP.out]; show Ending.returned (.bool (decide ((cp.size : Int) ≤ 65535))) = _; rw [HSZ.out]; simp [hmt, hn6], HM4.out⟩
              · go_wp2_with fail
                go_ret
                exact ⟨by rw [HQ.out, HP.out]; simp [hn6], HM4.out⟩
        · cases tw
          · have b2 := B2.out
            by_cases hn : 0 < n
            · go_wp2_with fail
              go_ret
              exact ⟨by rw [HQ.out, HP.out]; simp [hn], HM.out⟩
            · by_cases hmt : mtime = 4294967295
              · subst hmt
                go_wp2_with fail
                go_ret
                exact ⟨by rw [HQ.out, HP.out]; simp [], HM.out⟩
              · have hmt2 : ((mtime : Int) != 4294967295) = true := bne_iff_ne.2 (by omega)
                go_wp2_with fail
                refine (H4.out _ HM.out).mono ?_
                rintro x w4 ⟨rfl, hm⟩
                have hbx := hm.heap HBX.out (by simp)
                have c0 := cell_of_row _ _ 0 _ _ _ hbx
                have c1 := cell_of_row _ _ 1 _ _ _ hbx
                have c2 := cell_of_row _ _ 2 _ _ _ hbx
                have c3 := cell_of_row _ _ 3 _ _ _ hbx
                have c4 := cell_of_row _ _ 4 _ _ _ hbx
                simp only [List.getElem?_toArray, List.getElem?_cons_zero, List.getElem?_cons_succ] at c0 c1 c2 c3 c4
                have HM4 := Lib.hid (HM.out.trans hm (by simp))
                clear hm hbx
                cases gq
                · go_wp2_with fail
                  go_ret
                  exact ⟨by rw [HQ.out, HP.out]; simp, HM4.out⟩
                · by_cases hn6 : n ≤ 65536
                  · go_wp2_with fail
                    go_ret
                    exact ⟨by rw [HQ.out, HP.out]; show Ending.returned (.bool (decide ((cp.size : Int) ≤ 65535))) = _; rw [HSZ.out]; simp [hmt, hn6, hn], HM4.out⟩
                  · exfalso; omega
          · have b2 := B2.out
            go_wp2_with fail
            go_ret
            exact ⟨by rw [HQ.out, HP.out]; simp [], HM.out⟩
end Go.Proofs.YtmcekhgmmocajaaGreatDoor
namespace Go.Proofs.YtmcekhgmmocajaaGreatDoor
open Go.RowKit Me

def entC (e : EntP) (vd : Value) : List Value := [.string e.path, .int .u32 (e.mode : Int), .int .u32 (e.mtime : Int), .string e.gid, vd]
theorem entV_agg (e : EntP) (vd : Value) : entV e vd = .agg (entC e vd).toArray := rfl
/-- A slice of entries. -/
def Ents (w : World) (v : Value) (L : List EntP) : Prop :=
  ∃ A c, v = .slice A L.length c ∧ L.length ≤ c ∧ c ≤ maxLen ∧ ∀ i e, L[i]? = some e → ∃ g off vd, A = some ⟨g, off, none⟩ ∧ w.rangeAt g (off + i * 5) (entC e vd) ∧ Rd w vd (e.data.map byteV)
theorem range_mods {w w' : World} {F : List Nat} {g o : Nat} {cs : List Value} (h : w.rangeAt g o cs) (hm : Mods F w w') (hn : g ∉ F) : w'.rangeAt g o cs := by
  intro j v hj
  have hc := h j v hj
  rw [hm.cell (p := ⟨g, o + j, none⟩) (World.block_lt_of_cell? w _ hc) hn]
  exact hc
theorem Ents.mods {w w' : World} {v : Value} {L : List EntP} (h : Ents w v L) (hm : Mods [] w w') : Ents w' v L := by
  obtain ⟨A, c, e, h1, h2, h3⟩ := h
  refine ⟨A, c, e, h1, h2, fun i p hp => ?_⟩
  obtain ⟨g, off, vd, e1, h4, h5⟩ := h3 i p hp
  exact ⟨g, off, vd, e1, range_mods h4 hm (by simp), h5.mods hm (by simp)⟩
theorem Ents.at {w : World} {A : Option Addr} {n c : Nat} {L : List EntP} (h : Ents w (.slice A n c) L) {i : Nat} {e : EntP} (hs : L[i]? = some e) : ∃ g off vd, A = some ⟨g, off, none⟩ ∧ w.rangeAt g (off + i * 5) (entC e vd) ∧ Rd w vd (e.data.map byteV) := by
  obtain ⟨A', c', e, _, _, h3⟩ := h
  have e0 := (Value.slice.inj e).1
  subst e0
  exact h3 i _ hs
theorem range_ent {w : World} {g o : Nat} {e : EntP} {vd : Value} (h : w.rangeAt g o (entC e vd)) :
    w.cell? ⟨g, o, none⟩ = some (.string e.path) ∧ w.cell? ⟨g, o + 1, none⟩ = some (.int .u32 (e.mode : Int)) ∧ w.cell? ⟨g, o + 2, none⟩ = some (.int .u32 (e.mtime : Int)) ∧ w.cell? ⟨g, o + 3, none⟩ = some (.string e.gid) ∧ w.cell? ⟨g, o + 4, none⟩ = some vd :=
  ⟨h 0 _ rfl, h 1 _ rfl, h 2 _ rfl, h 3 _ rfl, h 4 _ rfl⟩
theorem info38t : (Tryz.prog.info? 47).map (·.size) = some 5 := by kernel_rfl
/-- What is handed in: entries of a size that can be. -/
structure Small (e : EntP) : Prop extends e.Fits where
  path : e.path.size ≤ 100000000
  gid : e.gid.size ≤ 100000000
  data : e.data.length ≤ 100000000

theorem notmay_any (e : EntP) (vd : Value) (w : World) (hf : Small e) (hv : Rd w vd (e.data.map byteV)) (hT : Tabs w) :
    Calls Tryz.prog 21 #[entV e vd] w fun x w' => x = .returned (.bool (!mayE e)) ∧ Mods [] w w' := by
  have H1 := Lib.hid (fun w' (hw : Mods [] w w') => may_any e vd w' hf.toFits (hv.mods hw (by simp)) (by have := hf.path; omega) (by have := hf.gid; unfold maxLen; omega) (hT.mods hw))
  obtain ⟨A, c, rfl, -⟩ := hv
  rw [List.length_map] at *
  unfold entV at *
  generalize mayE e = q at *
  have HA := Lib.hid ((Mods.refl [] w).alloc (.cells #[.string e.path, .int .u32 (e.mode : Int), .int .u32 (e.mtime : Int), .string e.gid, .slice A e.data.length c] 47))
  go_enter Tryz.func21, Tryz.ntmps21
  go_wp2_with fail
  refine (H1.out _ HA.out).mono ?_
  rintro x w1 ⟨rfl, hm⟩
  have HM := Lib.hid (HA.out.trans hm (by simp))
  clear hm
  go_wp2_with fail
  go_ret
  exact ⟨rfl, HM.out⟩
def RelIx (w : World) (L : List EntP) (i : Value) (wr : World) : Prop := ∃ k : Nat, k ≤ L.length ∧ i = .int .i64 k ∧ (L.take k).all mayE = true ∧ Mods [] w wr
set_option maxRecDepth 100000 in
set_option maxHeartbeats 1000000 in
theorem indexfunc_any {w : World} (L : List EntP) {v : Value} (h : Ents w v L) (hz : ∀ e ∈ L, Small e) (hT : Tabs w) :
    Calls Tryz.prog 43 #[v, .func (.func 21) #[] #[]] w fun x w' => (∃ i : Int, x = .returned (.int .i64 i) ∧ (L.all mayE = decide (i < 0))) ∧ Mods [] w w' := by
  have H := Lib.hid h
  have HZ := Lib.hid hz
  obtain ⟨A, c, rfl, h1, h2, -⟩ := h
  have hLm : L.length ≤ 9223372036854775807 := by unfold maxLen at h2; omega
  clear hz h1 h2
  go_enter Tryz.func43, Tryz.ntmps43
  go_wp2_with fail
  go_loopw [8] (fun i wr => RelIx w L i wr) (fun i _ => L.length - (intOf i).toNat)
  case atStart => exact ⟨0, by omega, rfl, by simp, Mods.refl _ _⟩
  case round =>
    obtain ⟨k, hk, rfl, hall, hmm⟩ := hrel
    have HALL := Lib.hid hall
    have HMM := Lib.hid hmm
    rcases Nat.lt_or_ge k L.length with hlt | hge
    · obtain ⟨e, hs⟩ : ∃ e, L[k]? = some e := ⟨_, List.getElem?_eq_getElem hlt⟩
      obtain ⟨g, off, vd, rfl, hrg, hrd⟩ := (H.out.mods hmm).at hs
      have HRG := Lib.hid hrg
      have hsm := HZ.out e (List.mem_of_getElem? hs)
      have HW := Lib.hid (notmay_any e vd wr hsm hrd (hT.mods hmm))
      rw [entV_agg] at HW
      have HTK : Hid ((L.take (k + 1)).all mayE = mayE e) := Lib.hid (by rw [List.take_add_one, hs, List.all_append, HALL.out]; simp)
      have HNO : Hid (mayE e = false → L.all mayE = false) := Lib.hid (fun hf => by
        rw [List.all_eq_false]
        exact ⟨e, List.mem_of_getElem? hs, by simp [hf]⟩)
      generalize mayE e = q at *
      clear hrg hrd hs hmm hall
      go_wp2_with (first | (refine wpList_load_mid rfl 47 _ rfl g (off + k * 5) rfl (entC e vd) _ HRG.out Tryz.underlying47 rfl info38t ?_))
      refine HW.out.mono ?_
      rintro x w2 ⟨rfl, hm⟩
      have HM2 := Lib.hid (HMM.out.trans hm (by simp))
      clear hm
      cases q
      · go_wp2_with fail
        go_ret
        exact ⟨⟨_, rfl, by rw [HNO.out trivial]; simp⟩, HM2.out⟩
      · go_wp2_with fail
        exact ⟨⟨k + 1, by omega, rfl, HTK.out, HM2.out⟩, by simp only [intOf]; omega⟩
    · obtain rfl : k = L.length := by omega
      clear hmm hall
      go_wp2_with fail
      go_ret
      refine ⟨⟨_, rfl, ?_⟩, HMM.out⟩
      have := HALL.out
      rw [List.take_length] at this
      rw [this]
      rfl
theorem containsfunc_any {w : World} (L : List EntP) {v : Value} (h : Ents w v L) (hz : ∀ e ∈ L, Small e) (hT : Tabs w) :
    Calls Tryz.prog 20 #[v, .func (.func 21) #[] #[]] w fun x w' => x = .returned (.bool (!L.all mayE)) ∧ Mods [] w w' := by
  have H := Lib.hid (indexfunc_any L h hz hT)
  obtain ⟨A, c, rfl, -⟩ := h
  generalize L.all mayE = q at *
  go_enter Tryz.func20, Tryz.ntmps20
  go_wp2_with fail
  refine H.out.mono ?_
  rintro x w1 ⟨⟨i, rfl, hq⟩, hm⟩
  have HM := Lib.hid hm
  have HQ := Lib.hid hq
  clear hm hq
  go_wp2_with fail
  go_ret
  refine ⟨?_, HM.out⟩
  rw [HQ.out]
  congr 2
  by_cases h0 : i < 0 <;> simp [h0] <;> omega
end Go.Proofs.YtmcekhgmmocajaaGreatDoor
