/- passes: a request is sent on, its fids turned. | passes: a Tread, and all kinds. -/
import Derived.Test.YtlgoeipgmjcboaaGreatDoorJu
namespace Go.Proofs.YtlgoeipgmjcboaaGreatDoor
open Go.RowKit Me
/-- What comes out of a call. -/
def asInt (l : List OutP) : List (Int × MsgP) := l.map fun p => ((p.1 : Int), p.2)
def RelP.passP (R : RelP) (n : Nat) (m : MsgP) : RelP × List OutP :=
  match R.turned n m with
  | none => R.refuse n m 102
  | some x => x.1.sends ⟨0, 0, n, false, false, m.kind, m.tag, x.2.2.1.filter (· ≠ 0), x.2.2.2.1, x.2.2.2.2, 0, m.names.length⟩
          (if m.kind = 116 then { x.2.1 with count := min m.count ((R.cli n).msize - 24) } else x.2.1)
theorem sends_put {R : RelP} {q : ReqP} {m : MsgP} {t : Nat} (ht : R.tag = some t) : R.sends q m = (R.put q t, [(0, { m with tag := t })]) := by
  unfold RelP.sends RelP.put
  rw [ht]
  rfl
/-- What has come out beside L, and what the relay is then. -/
def Outs (w0 : World) (F0 K : List Nat) (r : Nat) (x : RelP × List OutP) (L : List OutV) (w : World) : Prop :=
  ∃ (L' : List OutV) (G' : Gh), L'.map OutV.plain = asInt x.2 ∧ St w0 F0 K r x.1 x.1.used G' (L ++ L') w
theorem addUse_one (a : Nat) : addUse [] a = [a].filter (· ≠ 0) := by
  unfold addUse
  by_cases h : a = 0 <;> simp [h]
theorem addUse_two (a b : Nat) : addUse (addUse [] a) b = [a, b].filter (· ≠ 0) := by
  unfold addUse
  by_cases h : a = 0 <;> by_cases h' : b = 0 <;> simp [h, h']
section
variable {w0 w w' : World} {F0 K K' : List Nat} {r : Nat} {R R' : RelP} {G : Gh} {L : List OutV} {b2 b n : Nat} {m : MsgP} {vn vq vd vu : Value} {uses : List Nat}
theorem takes_pass (ha : R.Asks n m) (hc : R'.clients = R.clients) (hr : R'.reqs = R.reqs) {fresh fid many : Nat} (hu : ∀ i ∈ uses, ∃ l ∈ R'.links, l.id = i) (hf : fresh ≠ 0 → fresh ∈ uses) (hl : uses.length ≤ 2) : R'.Takes (passQ n false m.kind m.tag uses fresh fid many) := by
  have hcl : R'.cli n = R.cli n := by unfold RelP.cli; rw [hc]
  refine ⟨by rw [hc]; exact ha.client, ha.kind, ha.fits.tag, hu, hf, fun _ _ => ?_, hl, Nat.zero_le _, fun _ p hp ho e => ?_⟩
  · show 512 ≤ (R'.cli n).msize ∧ (R'.cli n).ending = false
    rw [hcl]
    exact ha.live
  · rw [hr] at hp
    exact under_none ha.none p hp ho e
theorem addUse_len (l : List Nat) (i : Nat) : (addUse l i).length ≤ l.length + 1 := by
  unfold addUse
  split <;> simp
theorem addUse_mem (l : List Nat) {i : Nat} (h : i ≠ 0) : i ∈ addUse l i := by
  rw [addUse_some l h]
  simp
theorem outs_one {o : OutV} {G' : Gh} {c : Nat} {m' : MsgP} {x : RelP × List OutP} (hx : x = (R', [(c, m')])) (h1 : o.c = (c : Int)) (h2 : o.m = m') (h3 : St w0 F0 K r R' R'.used G' (L ++ [o]) w') : Outs w0 F0 K r x L w' := by
  subst hx
  refine ⟨[o], G', ?_, h3⟩
  unfold asInt OutV.plain
  simp [h1, h2]
theorem passP_none (h : R.turned n m = none) : R.passP n m = (R, [(n, errM m.tag 102)]) := by
  unfold RelP.passP RelP.refuse errM
  rw [h]
theorem passP_some {t : Nat} {x : RelP × MsgP × List Nat × Nat × Nat} (h : R.turned n m = some x) (ht : x.1.tag = some t) : R.passP n m = (x.1.put (passQ n false m.kind m.tag (x.2.2.1.filter (· ≠ 0)) x.2.2.2.1 x.2.2.2.2 m.names.length) t, [(0, { (if m.kind = 116 then { x.2.1 with count := min m.count ((R.cli n).msize - 24) } else x.2.1) with tag := t })]) := by
  unfold RelP.passP
  rw [h]
  exact sends_put ht
theorem outs_pass {t : Nat} {m1 m2 : MsgP} {l us : List Nat} {fr fd : Nat} {o : OutV} {G' : Gh} (h : R.turned n m = some (R', m1, l, fr, fd)) (ht : R'.tag = some t) (hu : us = l.filter (· ≠ 0)) (hm : m2 = if m.kind = 116 then { m1 with count := min m.count ((R.cli n).msize - 24) } else m1) (h1 : o.c = 0) (h2 : o.m = { m2 with tag := t })
    (h3 : St w0 F0 K r (R'.put (passQ n false m.kind m.tag us fr fd m.names.length) t) (R'.put (passQ n false m.kind m.tag us fr fd m.names.length) t).used G' (L ++ [o]) w') : Outs w0 F0 K r (R.passP n m) L w' := by
  subst hu hm
  exact outs_one (passP_some h ht) h1 h2 h3
set_option maxRecDepth 100000 in
set_option maxHeartbeats 8000000 in
theorem passes_auth {t : Nat} {c : Nat} (h : St w0 F0 (listB vn vq vd ++ K) r R R.used G L w) (hm : OwnM w 0 m vn vq vd) (hsm : m.names.length ≤ 100000000 ∧ m.qids.length ≤ 100000000 ∧ m.data.length ≤ 100000000) (ha : R.Asks n m) (hk : m.kind = 102) (ht : R.tag = some t) (hL : L.length ≤ 1000) :
    Calls Tryz.prog 61 #[.pointer (some ⟨r, 0, none⟩), .int .i64 (n : Int), .pointer (some ⟨c, 0, none⟩), .agg (msgC m vn vq vd).toArray] w fun e w' => e = .returned (.tuple #[]) ∧ Outs w0 F0 K r (R.passP n m) L w' := by
  have hP := Pk.start h hm n
  have hrow := heap_alloc_new w (.cells (msgC m vn vq vd).toArray 47)
  generalize hw1 : w.alloc (.cells (msgC m vn vq vd).toArray 47) = w1 at *
  have hb2 : w1.heap.size = w.heap.size + 1 := by rw [← hw1]; simp
  rw [← hb2] at hP
  generalize hw2 : w1.alloc (.cells (reqC m vn vq vd n false m.tag false (.slice none 0 0) (.pointer none) .nilFunc).toArray 115) = w2 at *
  generalize hbb : w.heap.size = b2 at *
  generalize hbb1 : w1.heap.size = b at *
  have r1 : w1.cell? ⟨b2, 1, none⟩ = some (.int .u16 (m.tag : Int)) := by rw [cell_of_row _ _ _ _ _ _ hrow]; rfl
  have k0 : w2.cell? ⟨b2, 0, none⟩ = some (.int .u8 (m.kind : Int)) := hP.orig 0
  have k4 : w2.cell? ⟨b2, 4, none⟩ = some (.int .u32 (m.afid : Int)) := hP.orig 4
  have hcn := ha.client
  have HC2 := Lib.hid hrow
  have HBL := Lib.hid (built115' m vn vq vd n m.tag)
  have HIN := Lib.hid (info47 m vn vq vd)
  have HA := Lib.hid ha
  have HT := Lib.hid ht
  have HSM := Lib.hid hsm
  have HP := Lib.hid hP
  rw [hk] at k0
  have HK := Lib.hid hk
  clear h hm hP hrow ha ht hsm hb2 hk
  generalize hmc : (msgC m vn vq vd).toArray = mc at *
  generalize hrc : (reqC m vn vq vd n false m.tag false (.slice none 0 0) (.pointer none) .nilFunc).toArray = rc at *
  clear hrc
  go_enter Tryz.func61, Tryz.ntmps61
  go_wp2_with (first | (refine wpList_load_row rfl 47 _ rfl b2 rfl 47 mc (0, 0) _ HC2.out Tryz.underlying47 rfl HIN.out ?_) | (refine wpList_built rfl 115 _ rfl rc (by simp only [List.map_toArray, List.map_cons, List.map_nil]; exact HBL.out) ?_))
  refine (HP.out.fresh (by simp) hcn.1 hcn.2 m.afid HA.out.fits.afid).mono ?_
  rintro e w3 (⟨e0, rfl, hp⟩ | ⟨R', num, id, e0, G', vu', rfl, hp⟩)
  · have HE0 : Hid (R.turned n m = none) := Lib.hid (by unfold RelP.turned; rw [if_pos HK.out, e0]; rfl)
    have f4 := hp.frozen 4
    have d4 : w3.cell? ⟨b, 4, none⟩ = some (.int .u32 (m.afid : Int)) := hp.cell 4
    have hp2 := hp.set (m' := { m with afid := 0 }) (i := 4) (v := .int .u32 0) rfl ⟨rfl, rfl, rfl⟩
    clear e0
    generalize hw4 : w3.setCell ⟨b, 4, none⟩ (.int .u32 0) = w4 at *
    have HROW := Lib.hid hp2.row
    have HREF := Lib.hid (refuse_any hp2.rest n m 102 (by unfold isWord; simp) (vn := vn) (vq := vq) (vd := vd) hL)
    rw [hmc] at HROW HREF
    clear hp hp2
    go_wp2_with (refine wpList_load_row rfl 47 _ rfl b2 rfl 47 mc (0, 0) _ HROW.out Tryz.underlying47 rfl HIN.out ?_)
    refine HREF.out.mono ?_
    rintro e wz ⟨rfl, o, o1, o2, o3, -⟩
    have H1 := Lib.hid o1
    have H2 := Lib.hid o2
    have H3 := Lib.hid o3
    clear o1 o2 o3
    go_wp2_with fail
    refine bodyPost_ret (results_none rfl _ _ _) rfl ?_
    exact ⟨rfl, outs_one (passP_none HE0.out) H1.out H2.out H3.out⟩
  · generalize hpl : (if id = 0 then none else some (⟨G'.lb id, 0, none⟩ : Addr)) = pl at *
    obtain ⟨F1, F2, F3, F4, F5, F6, F7, F8, F9⟩ := fresh_facts e0
    have HE0 : Hid (R.turned n m = some (R', { m with afid := num }, [id], id, 0)) := Lib.hid (by unfold RelP.turned; rw [if_pos HK.out, e0]; rfl)
    have HT2 : Hid (R'.tag = some t) := Lib.hid (F5.trans HT.out)
    have f4 := hp.frozen 4
    have d4 : w3.cell? ⟨b, 4, none⟩ = some (.int .u32 (m.afid : Int)) := hp.cell 4
    have hp2 := hp.set (m' := { m with afid := num }) (i := 4) (v := .int .u32 (num : Int)) rfl ⟨rfl, rfl, rfl⟩
    have hu2 : (addUse [] id).length ≤ 2 := Nat.le_trans (addUse_len _ _) (by simp)
    clear e0
    generalize hw4 : w3.setCell ⟨b, 4, none⟩ (.int .u32 (num : Int)) = w4 at *
    have k0' : w4.cell? ⟨b2, 0, none⟩ = some (.int .u8 (m.kind : Int)) := hp2.orig 0
    rw [HK.out] at k0'
    have HTK : Hid (R'.Takes (passQ n false m.kind m.tag (addUse [] id) id 0 m.names.length)) := Lib.hid (takes_pass HA.out F2 F3 hp2.made.ids (fun h => addUse_mem _ h) hu2)
    have HS := Lib.hid ((hp2.made.keep (K' := listB vn vq vd ++ K) (fun k hk => List.mem_cons_of_mem _ hk)).sends hp2.own HSM.out (by show m.kind ≠ 108; rw [HK.out]; decide) HT2.out hpl.symm HTK.out hL)
    clear hp hp2 hpl F1 F2 F3 F4 F5 F6 F7 F8 F9
    go_wp2_with fail
    refine HS.out.mono ?_
    rintro e wx ⟨c1, c2, c3, c4, rfl, g1, g2, g3⟩
    have H3 := Lib.hid g3
    clear g3
    go_wp2_with fail
    refine H3.out.mono ?_
    rintro e wy ⟨rfl, o, G2, -, o1, o2, o3⟩
    have I1 := Lib.hid o1
    have I2 := Lib.hid o2
    have I3 := Lib.hid o3
    clear o1 o2 o3
    go_wp2_with fail
    go_end0
    exact ⟨rfl, outs_pass (G' := G2) HE0.out HT2.out (addUse_one _) (by rw [if_neg (by rw [HK.out]; decide)]) I1.out I2.out I3.out⟩
set_option maxRecDepth 100000 in
set_option maxHeartbeats 8000000 in
theorem passes_attach {t : Nat} {c : Nat} (h : St w0 F0 (listB vn vq vd ++ K) r R R.used G L w) (hm : OwnM w 0 m vn vq vd) (hsm : m.names.length ≤ 100000000 ∧ m.qids.length ≤ 100000000 ∧ m.data.length ≤ 100000000) (ha : R.Asks n m) (hk : m.kind = 104) (ht : R.tag = some t) (hL : L.length ≤ 1000) :
    Calls Tryz.prog 61 #[.pointer (some ⟨r, 0, none⟩), .int .i64 (n : Int), .pointer (some ⟨c, 0, none⟩), .agg (msgC m vn vq vd).toArray] w fun e w' => e = .returned (.tuple #[]) ∧ Outs w0 F0 K r (R.passP n m) L w' := by
  have hP := Pk.start h hm n
  have hrow := heap_alloc_new w (.cells (msgC m vn vq vd).toArray 47)
  generalize hw1 : w.alloc (.cells (msgC m vn vq vd).toArray 47) = w1 at *
  have hb2 : w1.heap.size = w.heap.size + 1 := by rw [← hw1]; simp
  rw [← hb2] at hP
  generalize hw2 : w1.alloc (.cells (reqC m vn vq vd n false m.tag false (.slice none 0 0) (.pointer none) .nilFunc).toArray 115) = w2 at *
  generalize hbb : w.heap.size = b2 at *
  generalize hbb1 : w1.heap.size = b at *
  have r1 : w1.cell? ⟨b2, 1, none⟩ = some (.int .u16 (m.tag : Int)) := by rw [cell_of_row _ _ _ _ _ _ hrow]; rfl
  have k0 : w2.cell? ⟨b2, 0, none⟩ = some (.int .u8 (m.kind : Int)) := hP.orig 0
  have k4 : w2.cell? ⟨b2, 4, none⟩ = some (.int .u32 (m.afid : Int)) := hP.orig 4
  have hcn := ha.client
  have HC2 := Lib.hid hrow
  have HBL := Lib.hid (built115' m vn vq vd n m.tag)
  have HIN := Lib.hid (info47 m vn vq vd)
  have HA := Lib.hid ha
  have HT := Lib.hid ht
  have HSM := Lib.hid hsm
  have HP := Lib.hid hP
  rw [hk] at k0
  have HK := Lib.hid hk
  clear h hm hP hrow ha ht hsm hb2 hk
  generalize hmc : (msgC m vn vq vd).toArray = mc at *
  generalize hrc : (reqC m vn vq vd n false m.tag false (.slice none 0 0) (.pointer none) .nilFunc).toArray = rc at *
  clear hrc
  go_enter Tryz.func61, Tryz.ntmps61
  go_wp2_with (first | (refine wpList_load_row rfl 47 _ rfl b2 rfl 47 mc (0, 0) _ HC2.out Tryz.underlying47 rfl HIN.out ?_) | (refine wpList_built rfl 115 _ rfl rc (by simp only [List.map_toArray, List.map_cons, List.map_nil]; exact HBL.out) ?_))
  refine (HP.out.known (by simp) hcn.2 m.afid HA.out.fits.afid).mono ?_
  rintro e w3 ⟨rfl, vu1, hp⟩
  have f4 := hp.frozen 4
  have d4 : w3.cell? ⟨b, 4, none⟩ = some (.int .u32 (m.afid : Int)) := hp.cell 4
  have hp2 := hp.set (m' := { m with afid := (R.old n m.afid).1 }) (i := 4) (v := .int .u32 (((R.old n m.afid).1 : Nat) : Int)) rfl ⟨rfl, rfl, rfl⟩
  generalize hw4 : w3.setCell ⟨b, 4, none⟩ (.int .u32 (((R.old n m.afid).1 : Nat) : Int)) = w4 at *
  have k9 : w4.cell? ⟨b2, 9, none⟩ = some (.int .u32 (m.fid : Int)) := hp2.orig 9
  have HP2 := Lib.hid hp2
  clear hp hp2 HP
  go_wp2_with fail
  refine (HP2.out.fresh (Nat.le_trans (addUse_len _ _) (by simp)) hcn.1 hcn.2 m.fid HA.out.fits.fid).mono ?_
  rintro e w5 (⟨e0, rfl, hq⟩ | ⟨R', num, id, e0, G', vu', rfl, hq⟩)
  · have HE0 : Hid (R.turned n m = none) := Lib.hid (by unfold RelP.turned; rw [if_neg (by rw [HK.out]; decide), if_pos HK.out, e0]; rfl)
    have f9 := hq.frozen 9
    have d9 : w5.cell? ⟨b, 9, none⟩ = some (.int .u32 (m.fid : Int)) := hq.cell 9
    have hq2 := hq.set (m' := { m with afid := (R.old n m.afid).1, fid := 0 }) (i := 9) (v := .int .u32 0) rfl ⟨rfl, rfl, rfl⟩
    clear e0
    generalize hw6 : w5.setCell ⟨b, 9, none⟩ (.int .u32 0) = w6 at *
    have HROW := Lib.hid hq2.row
    have HREF := Lib.hid (refuse_any hq2.rest n m 102 (by unfold isWord; simp) (vn := vn) (vq := vq) (vd := vd) hL)
    rw [hmc] at HROW HREF
    clear hq hq2 HP2
    go_wp2_with (refine wpList_load_row rfl 47 _ rfl b2 rfl 47 mc (0, 0) _ HROW.out Tryz.underlying47 rfl HIN.out ?_)
    refine HREF.out.mono ?_
    rintro e wz ⟨rfl, o, o1, o2, o3, -⟩
    have H1 := Lib.hid o1
    have H2 := Lib.hid o2
    have H3 := Lib.hid o3
    clear o1 o2 o3
    go_wp2_with fail
    refine bodyPost_ret (results_none rfl _ _ _) rfl ?_
    exact ⟨rfl, outs_one (passP_none HE0.out) H1.out H2.out H3.out⟩
  · generalize hpl : (if id = 0 then none else some (⟨G'.lb id, 0, none⟩ : Addr)) = pl at *
    obtain ⟨F1, F2, F3, F4, F5, F6, F7, F8, F9⟩ := fresh_facts e0
    have HE0 : Hid (R.turned n m = some (R', { m with afid := (R.old n m.afid).1, fid := num }, [(R.old n m.afid).2, id], id, 0)) := Lib.hid (by unfold RelP.turned; rw [if_neg (by rw [HK.out]; decide), if_pos HK.out, e0]; rfl)
    have HT2 : Hid (R'.tag = some t) := Lib.hid (F5.trans HT.out)
    have f9 := hq.frozen 9
    have d9 : w5.cell? ⟨b, 9, none⟩ = some (.int .u32 (m.fid : Int)) := hq.cell 9
    have hq2 := hq.set (m' := { m with afid := (R.old n m.afid).1, fid := num }) (i := 9) (v := .int .u32 (num : Int)) rfl ⟨rfl, rfl, rfl⟩
    have hu2 : (addUse (addUse [] (R.old n m.afid).2) id).length ≤ 2 := Nat.le_trans (addUse_len _ _) (Nat.succ_le_succ (Nat.le_trans (addUse_len _ _) (by simp)))
    clear e0
    generalize hw6 : w5.setCell ⟨b, 9, none⟩ (.int .u32 (num : Int)) = w6 at *
    have k0' : w6.cell? ⟨b2, 0, none⟩ = some (.int .u8 (m.kind : Int)) := hq2.orig 0
    rw [HK.out] at k0'
    have HTK : Hid (R'.Takes (passQ n false m.kind m.tag (addUse (addUse [] (R.old n m.afid).2) id) id 0 m.names.length)) := Lib.hid (takes_pass HA.out F2 F3 hq2.made.ids (fun h => addUse_mem _ h) hu2)
    have HS := Lib.hid ((hq2.made.keep (K' := listB vn vq vd ++ K) (fun k hk => List.mem_cons_of_mem _ hk)).sends hq2.own HSM.out (by show m.kind ≠ 108; rw [HK.out]; decide) HT2.out hpl.symm HTK.out hL)
    clear hq hq2 hpl HP2 F1 F2 F3 F4 F5 F6 F7 F8 F9
    go_wp2_with fail
    refine HS.out.mono ?_
    rintro e wx ⟨c1, c2, c3, c4, rfl, g1, g2, g3⟩
    have H3 := Lib.hid g3
    clear g3
    go_wp2_with fail
    refine H3.out.mono ?_
    rintro e wy ⟨rfl, o, G2, -, o1, o2, o3⟩
    have I1 := Lib.hid o1
    have I2 := Lib.hid o2
    have I3 := Lib.hid o3
    clear o1 o2 o3
    go_wp2_with fail
    go_end0
    exact ⟨rfl, outs_pass (G' := G2) HE0.out HT2.out (addUse_two _ _) (by rw [if_neg (by rw [HK.out]; decide)]) I1.out I2.out I3.out⟩
set_option maxRecDepth 100000 in
set_option maxHeartbeats 8000000 in
theorem passes_walk {t : Nat} {c : Nat} (h : St w0 F0 (listB vn vq vd ++ K) r R R.used G L w) (hm : OwnM w 0 m vn vq vd) (hsm : m.names.length ≤ 100000000 ∧ m.qids.length ≤ 100000000 ∧ m.data.length ≤ 100000000) (ha : R.Asks n m) (hk : m.kind = 110) (ht : R.tag = some t) (hL : L.length ≤ 1000) :
    Calls Tryz.prog 61 #[.pointer (some ⟨r, 0, none⟩), .int .i64 (n : Int), .pointer (some ⟨c, 0, none⟩), .agg (msgC m vn vq vd).toArray] w fun e w' => e = .returned (.tuple #[]) ∧ Outs w0 F0 K r (R.passP n m) L w' := by
  have hP := Pk.start h hm n
  have hrow := heap_alloc_new w (.cells (msgC m vn vq vd).toArray 47)
  generalize hw1 : w.alloc (.cells (msgC m vn vq vd).toArray 47) = w1 at *
  have hb2 : w1.heap.size = w.heap.size + 1 := by rw [← hw1]; simp
  rw [← hb2] at hP
  generalize hw2 : w1.alloc (.cells (reqC m vn vq vd n false m.tag false (.slice none 0 0) (.pointer none) .nilFunc).toArray 115) = w2 at *
  generalize hbb : w.heap.size = b2 at *
  generalize hbb1 : w1.heap.size = b at *
  have r1 : w1.cell? ⟨b2, 1, none⟩ = some (.int .u16 (m.tag : Int)) := by rw [cell_of_row _ _ _ _ _ _ hrow]; rfl
  have k0 : w2.cell? ⟨b2, 0, none⟩ = some (.int .u8 (m.kind : Int)) := hP.orig 0
  have k9 : w2.cell? ⟨b2, 9, none⟩ = some (.int .u32 (m.fid : Int)) := hP.orig 9
  have hcn := ha.client
  have HC2 := Lib.hid hrow
  have HBL := Lib.hid (built115' m vn vq vd n m.tag)
  have HIN := Lib.hid (info47 m vn vq vd)
  have HA := Lib.hid ha
  have HT := Lib.hid ht
  have HSM := Lib.hid hsm
  have HP := Lib.hid hP
  rw [hk] at k0
  have HK := Lib.hid hk
  clear h hm hP hrow ha ht hsm hb2 hk
  generalize hmc : (msgC m vn vq vd).toArray = mc at *
  generalize hrc : (reqC m vn vq vd n false m.tag false (.slice none 0 0) (.pointer none) .nilFunc).toArray = rc at *
  clear hrc
  go_enter Tryz.func61, Tryz.ntmps61
  go_wp2_with (first | (refine wpList_load_row rfl 47 _ rfl b2 rfl 47 mc (0, 0) _ HC2.out Tryz.underlying47 rfl HIN.out ?_) | (refine wpList_built rfl 115 _ rfl rc (by simp only [List.map_toArray, List.map_cons, List.map_nil]; exact HBL.out) ?_))
  refine (HP.out.known (by simp) hcn.2 m.fid HA.out.fits.fid).mono ?_
  rintro e w3 ⟨rfl, vu1, hp⟩
  have f9 := hp.frozen 9
  have d9 : w3.cell? ⟨b, 9, none⟩ = some (.int .u32 (m.fid : Int)) := hp.cell 9
  have hp2 := hp.set (m' := { m with fid := (R.old n m.fid).1 }) (i := 9) (v := .int .u32 (((R.old n m.fid).1 : Nat) : Int)) rfl ⟨rfl, rfl, rfl⟩
  generalize hw4 : w3.setCell ⟨b, 9, none⟩ (.int .u32 (((R.old n m.fid).1 : Nat) : Int)) = w4 at *
  have q9 : w4.cell? ⟨b, 9, none⟩ = some (.int .u32 (((R.old n m.fid).1 : Nat) : Int)) := hp2.cell 9
  have f10 := hp2.frozen 10
  have d10 : w4.cell? ⟨b, 10, none⟩ = some (.int .u32 (m.newfid : Int)) := hp2.cell 10
  have hp3 := hp2.set (m' := { m with fid := (R.old n m.fid).1, newfid := (R.old n m.fid).1 }) (i := 10) (v := .int .u32 (((R.old n m.fid).1 : Nat) : Int)) rfl ⟨rfl, rfl, rfl⟩
  generalize hw5 : w4.setCell ⟨b, 10, none⟩ (.int .u32 (((R.old n m.fid).1 : Nat) : Int)) = w5 at *
  have k10 : w5.cell? ⟨b2, 10, none⟩ = some (.int .u32 (m.newfid : Int)) := hp3.orig 10
  have k9' : w5.cell? ⟨b2, 9, none⟩ = some (.int .u32 (m.fid : Int)) := hp3.orig 9
  have HP2 := Lib.hid hp3
  clear hp hp2 hp3 HP
  by_cases e1 : m.newfid = m.fid
  · have b1 : ((m.newfid : Int) != (m.fid : Int)) = false := by rw [e1]; simp
    have HE0 : Hid (R.turned n m = some (R, { m with fid := (R.old n m.fid).1, newfid := (R.old n m.fid).1 }, [(R.old n m.fid).2], 0, (R.old n m.fid).2)) := Lib.hid (by unfold RelP.turned; rw [if_neg (by rw [HK.out]; decide), if_neg (by rw [HK.out]; decide), if_pos HK.out, if_pos e1])
    have hu2 : (addUse [] (R.old n m.fid).2).length ≤ 2 := Nat.le_trans (addUse_len _ _) (by simp)
    have HT2 := HT
    have k0' : w5.cell? ⟨b2, 0, none⟩ = some (.int .u8 (m.kind : Int)) := HP2.out.orig 0
    rw [HK.out] at k0'
    clear e1
    have HTK : Hid (R.Takes (passQ n false m.kind m.tag (addUse [] (R.old n m.fid).2) 0 (R.old n m.fid).2 m.names.length)) := Lib.hid (takes_pass HA.out rfl rfl HP2.out.made.ids (fun h => absurd rfl h) hu2)
    have HS := Lib.hid ((HP2.out.made.keep (K' := listB vn vq vd ++ K) (fun k hk => List.mem_cons_of_mem _ hk)).sends HP2.out.own HSM.out (by show m.kind ≠ 108; rw [HK.out]; decide) HT2.out rfl HTK.out hL)
    clear HP2
    go_wp2_with fail
    refine HS.out.mono ?_
    rintro e wx ⟨c1, c2, c3, c4, rfl, g1, g2, g3⟩
    have H3 := Lib.hid g3
    clear g3
    go_wp2_with fail
    refine H3.out.mono ?_
    rintro e wy ⟨rfl, o, G2, -, o1, o2, o3⟩
    have I1 := Lib.hid o1
    have I2 := Lib.hid o2
    have I3 := Lib.hid o3
    clear o1 o2 o3
    go_wp2_with fail
    go_end0
    exact ⟨rfl, outs_pass (G' := G2) HE0.out HT2.out (addUse_one _) (by rw [if_neg (by rw [HK.out]; decide)]) I1.out I2.out I3.out⟩
  · have b1 : ((m.newfid : Int) != (m.fid : Int)) = true := by simpa using (by omega : ¬ (m.newfid : Int) = m.fid)
    have HE1 := Lib.hid e1
    clear e1
    go_wp2_with fail
    refine (HP2.out.fresh (Nat.le_trans (addUse_len _ _) (by simp)) hcn.1 hcn.2 m.newfid HA.out.fits.newfid).mono ?_
    rintro e w6 (⟨e0, rfl, hq⟩ | ⟨R', num, id, e0, G', vu', rfl, hq⟩)
    · have HE0 : Hid (R.turned n m = none) := Lib.hid (by unfold RelP.turned; rw [if_neg (by rw [HK.out]; decide), if_neg (by rw [HK.out]; decide), if_pos HK.out, if_neg HE1.out, e0]; rfl)
      have g10 := hq.frozen 10
      have h10 : w6.cell? ⟨b, 10, none⟩ = some (.int .u32 (((R.old n m.fid).1 : Nat) : Int)) := hq.cell 10
      have hq2 := hq.set (m' := { m with fid := (R.old n m.fid).1, newfid := 0 }) (i := 10) (v := .int .u32 0) rfl ⟨rfl, rfl, rfl⟩
      clear e0
      generalize hw7 : w6.setCell ⟨b, 10, none⟩ (.int .u32 0) = w7 at *
      have HROW := Lib.hid hq2.row
      have HREF := Lib.hid (refuse_any hq2.rest n m 102 (by unfold isWord; simp) (vn := vn) (vq := vq) (vd := vd) hL)
      rw [hmc] at HROW HREF
      clear hq hq2 HP2
      go_wp2_with (refine wpList_load_row rfl 47 _ rfl b2 rfl 47 mc (0, 0) _ HROW.out Tryz.underlying47 rfl HIN.out ?_)
      refine HREF.out.mono ?_
      rintro e wz ⟨rfl, o, o1, o2, o3, -⟩
      have H1 := Lib.hid o1
      have H2 := Lib.hid o2
      have H3 := Lib.hid o3
      clear o1 o2 o3
      go_wp2_with fail
      refine bodyPost_ret (results_none rfl _ _ _) rfl ?_
      exact ⟨rfl, outs_one (passP_none HE0.out) H1.out H2.out H3.out⟩
    · generalize hpl : (if id = 0 then none else some (⟨G'.lb id, 0, none⟩ : Addr)) = pl at *
      obtain ⟨F1, F2, F3, F4, F5, F6, F7, F8, F9⟩ := fresh_facts e0
      have HE0 : Hid (R.turned n m = some (R', { m with fid := (R.old n m.fid).1, newfid := num }, [(R.old n m.fid).2, id], id, (R.old n m.fid).2)) := Lib.hid (by unfold RelP.turned; rw [if_neg (by rw [HK.out]; decide), if_neg (by rw [HK.out]; decide), if_pos HK.out, if_neg HE1.out, e0]; rfl)
      have HT2 : Hid (R'.tag = some t) := Lib.hid (F5.trans HT.out)
      have g10 := hq.frozen 10
      have h10 : w6.cell? ⟨b, 10, none⟩ = some (.int .u32 (((R.old n m.fid).1 : Nat) : Int)) := hq.cell 10
      have hq2 := hq.set (m' := { m with fid := (R.old n m.fid).1, newfid := num }) (i := 10) (v := .int .u32 (num : Int)) rfl ⟨rfl, rfl, rfl⟩
      have hu2 : (addUse (addUse [] (R.old n m.fid).2) id).length ≤ 2 := Nat.le_trans (addUse_len _ _) (Nat.succ_le_succ (Nat.le_trans (addUse_len _ _) (by simp)))
      clear e0
      generalize hw7 : w6.setCell ⟨b, 10, none⟩ (.int .u32 (num : Int)) = w7 at *
      have k0' : w7.cell? ⟨b2, 0, none⟩ = some (.int .u8 (m.kind : Int)) := hq2.orig 0
      rw [HK.out] at k0'
      have HTK : Hid (R'.Takes (passQ n false m.kind m.tag (addUse (addUse [] (R.old n m.fid).2) id) id (R.old n m.fid).2 m.names.length)) := Lib.hid (takes_pass HA.out F2 F3 hq2.made.ids (fun h => addUse_mem _ h) hu2)
      have HS := Lib.hid ((hq2.made.keep (K' := listB vn vq vd ++ K) (fun k hk => List.mem_cons_of_mem _ hk)).sends hq2.own HSM.out (by show m.kind ≠ 108; rw [HK.out]; decide) HT2.out hpl.symm HTK.out hL)
      clear hq hq2 hpl HP2 F1 F2 F3 F4 F5 F6 F7 F8 F9
      go_wp2_with fail
      refine HS.out.mono ?_
      rintro e wx ⟨c1, c2, c3, c4, rfl, g1, g2, g3⟩
      have H3 := Lib.hid g3
      clear g3
      go_wp2_with fail
      refine H3.out.mono ?_
      rintro e wy ⟨rfl, o, G2, -, o1, o2, o3⟩
      have I1 := Lib.hid o1
      have I2 := Lib.hid o2
      have I3 := Lib.hid o3
      clear o1 o2 o3
      go_wp2_with fail
      go_end0
      exact ⟨rfl, outs_pass (G' := G2) HE0.out HT2.out (addUse_two _ _) (by rw [if_neg (by rw [HK.out]; decide)]) I1.out I2.out I3.out⟩
set_option maxRecDepth 100000 in
set_option maxHeartbeats 8000000 in
theorem passes_rest {t : Nat} {c : Nat} (h : St w0 F0 (listB vn vq vd ++ K) r R R.used G L w) (hm : OwnM w 0 m vn vq vd) (hsm : m.names.length ≤ 100000000 ∧ m.qids.length ≤ 100000000 ∧ m.data.length ≤ 100000000) (ha : R.Asks n m) (hk : m.kind ≠ 102 ∧ m.kind ≠ 104 ∧ m.kind ≠ 110 ∧ m.kind ≠ 108) (hk2 : m.kind ≠ 116) (ht : R.tag = some t) (hL : L.length ≤ 1000) :
    Calls Tryz.prog 61 #[.pointer (some ⟨r, 0, none⟩), .int .i64 (n : Int), .pointer (some ⟨c, 0, none⟩), .agg (msgC m vn vq vd).toArray] w fun e w' => e = .returned (.tuple #[]) ∧ Outs w0 F0 K r (R.passP n m) L w' := by
  have hP := Pk.start h hm n
  have hrow := heap_alloc_new w (.cells (msgC m vn vq vd).toArray 47)
  generalize hw1 : w.alloc (.cells (msgC m vn vq vd).toArray 47) = w1 at *
  have hb2 : w1.heap.size = w.heap.size + 1 := by rw [← hw1]; simp
  rw [← hb2] at hP
  generalize hw2 : w1.alloc (.cells (reqC m vn vq vd n false m.tag false (.slice none 0 0) (.pointer none) .nilFunc).toArray 115) = w2 at *
  generalize hbb : w.heap.size = b2 at *
  generalize hbb1 : w1.heap.size = b at *
  have r1 : w1.cell? ⟨b2, 1, none⟩ = some (.int .u16 (m.tag : Int)) := by rw [cell_of_row _ _ _ _ _ _ hrow]; rfl
  have k0 : w2.cell? ⟨b2, 0, none⟩ = some (.int .u8 (m.kind : Int)) := hP.orig 0
  have k9 : w2.cell? ⟨b2, 9, none⟩ = some (.int .u32 (m.fid : Int)) := hP.orig 9
  have hcn := ha.client
  have HC2 := Lib.hid hrow
  have HBL := Lib.hid (built115' m vn vq vd n m.tag)
  have HIN := Lib.hid (info47 m vn vq vd)
  have HA := Lib.hid ha
  have HT := Lib.hid ht
  have HSM := Lib.hid hsm
  have HP := Lib.hid hP
  have b102 : ((m.kind : Int) == 102) = false := by simpa using (by omega : ¬ (m.kind : Int) = 102)
  have b104 : ((m.kind : Int) == 104) = false := by simpa using (by omega : ¬ (m.kind : Int) = 104)
  have b110 : ((m.kind : Int) == 110) = false := by simpa using (by omega : ¬ (m.kind : Int) = 110)
  have b116 : ((m.kind : Int) == 116) = false := by simpa using (by omega : ¬ (m.kind : Int) = 116)
  have HK := Lib.hid hk
  have HK2 := Lib.hid hk2
  clear h hm hP hrow ha ht hsm hb2 hk hk2
  generalize hmc : (msgC m vn vq vd).toArray = mc at *
  generalize hrc : (reqC m vn vq vd n false m.tag false (.slice none 0 0) (.pointer none) .nilFunc).toArray = rc at *
  clear hrc
  go_enter Tryz.func61, Tryz.ntmps61
  go_wp2_with (first | (refine wpList_load_row rfl 47 _ rfl b2 rfl 47 mc (0, 0) _ HC2.out Tryz.underlying47 rfl HIN.out ?_) | (refine wpList_built rfl 115 _ rfl rc (by simp only [List.map_toArray, List.map_cons, List.map_nil]; exact HBL.out) ?_))
  refine (HP.out.known (by simp) hcn.2 m.fid HA.out.fits.fid).mono ?_
  rintro e w3 ⟨rfl, vu1, hp⟩
  have f9 := hp.frozen 9
  have d9 : w3.cell? ⟨b, 9, none⟩ = some (.int .u32 (m.fid : Int)) := hp.cell 9
  have hp2 := hp.set (m' := { m with fid := (R.old n m.fid).1 }) (i := 9) (v := .int .u32 (((R.old n m.fid).1 : Nat) : Int)) rfl ⟨rfl, rfl, rfl⟩
  generalize hw4 : w3.setCell ⟨b, 9, none⟩ (.int .u32 (((R.old n m.fid).1 : Nat) : Int)) = w4 at *
  have HE0 : Hid (R.turned n m = some (R, { m with fid := (R.old n m.fid).1 }, [(R.old n m.fid).2], 0, (R.old n m.fid).2)) := Lib.hid (by unfold RelP.turned; rw [if_neg HK.out.1, if_neg HK.out.2.1, if_neg HK.out.2.2.1])
  have hu2 : (addUse [] (R.old n m.fid).2).length ≤ 2 := Nat.le_trans (addUse_len _ _) (by simp)
  have HT2 := HT
  have k0' : w4.cell? ⟨b2, 0, none⟩ = some (.int .u8 (m.kind : Int)) := hp2.orig 0
  have HTK : Hid (R.Takes (passQ n false m.kind m.tag (addUse [] (R.old n m.fid).2) 0 (R.old n m.fid).2 m.names.length)) := Lib.hid (takes_pass HA.out rfl rfl hp2.made.ids (fun h => absurd rfl h) hu2)
  have HS := Lib.hid ((hp2.made.keep (K' := listB vn vq vd ++ K) (fun k hk => List.mem_cons_of_mem _ hk)).sends hp2.own HSM.out (by show m.kind ≠ 108; exact HK.out.2.2.2) HT2.out rfl HTK.out hL)
  clear hp hp2 HP
  go_wp2_with fail
  refine HS.out.mono ?_
  rintro e wx ⟨c1, c2, c3, c4, rfl, g1, g2, g3⟩
  have H3 := Lib.hid g3
  clear g3
  go_wp2_with fail
  refine H3.out.mono ?_
  rintro e wy ⟨rfl, o, G2, -, o1, o2, o3⟩
  have I1 := Lib.hid o1
  have I2 := Lib.hid o2
  have I3 := Lib.hid o3
  clear o1 o2 o3
  go_wp2_with fail
  go_end0
  exact ⟨rfl, outs_pass (G' := G2) HE0.out HT2.out (addUse_one _) (by rw [if_neg HK2.out]) I1.out I2.out I3.out⟩
end
end Go.Proofs.YtlgoeipgmjcboaaGreatDoor
namespace Go.Proofs.YtlgoeipgmjcboaaGreatDoor
open Go.RowKit Me
section
variable {w0 w w' : World} {F0 K K' : List Nat} {r : Nat} {R R' : RelP} {U : Nat → Nat} {G : Gh} {L : List OutV} {b2 b n : Nat} {m : MsgP} {vn vq vd vu : Value} {uses : List Nat}
theorem cli_at {R : RelP} {n : Nat} (hn : 1 ≤ n ∧ n ≤ R.clients.length) : R.clients[n - 1]? = some (R.cli n) := by
  unfold RelP.cli
  rw [List.getD_eq_getElem?_getD, List.getElem?_eq_getElem (by omega)]
  rfl
theorem St.msize (h : St w0 F0 K r R U G L w) (hn : 1 ≤ n ∧ n ≤ R.clients.length) : w.cell? ⟨G.cb (n - 1), 0, none⟩ = some (.int .u32 ((R.cli n).msize : Int)) := by
  obtain ⟨vo, h1, -⟩ := h.ex
  obtain ⟨hb, p, h2, -⟩ := h1.cli (n - 1) (R.cli n) (cli_at hn)
  rw [cell_of_row _ _ _ _ _ _ h2]
  rfl
set_option maxRecDepth 100000 in
set_option maxHeartbeats 8000000 in
theorem passes_read {t : Nat} {c : Nat} (h : St w0 F0 (listB vn vq vd ++ K) r R R.used G L w) (hm : OwnM w 0 m vn vq vd) (hsm : m.names.length ≤ 100000000 ∧ m.qids.length ≤ 100000000 ∧ m.data.length ≤ 100000000) (ha : R.Asks n m) (hk : m.kind = 116) (hc : c = G.cb (n - 1)) (ht : R.tag = some t) (hL : L.length ≤ 1000) :
    Calls Tryz.prog 61 #[.pointer (some ⟨r, 0, none⟩), .int .i64 (n : Int), .pointer (some ⟨c, 0, none⟩), .agg (msgC m vn vq vd).toArray] w fun e w' => e = .returned (.tuple #[]) ∧ Outs w0 F0 K r (R.passP n m) L w' := by
  have hP := Pk.start h hm n
  have hrow := heap_alloc_new w (.cells (msgC m vn vq vd).toArray 47)
  generalize hw1 : w.alloc (.cells (msgC m vn vq vd).toArray 47) = w1 at *
  have hb2 : w1.heap.size = w.heap.size + 1 := by rw [← hw1]; simp
  rw [← hb2] at hP
  generalize hw2 : w1.alloc (.cells (reqC m vn vq vd n false m.tag false (.slice none 0 0) (.pointer none) .nilFunc).toArray 115) = w2 at *
  generalize hbb : w.heap.size = b2 at *
  generalize hbb1 : w1.heap.size = b at *
  have r1 : w1.cell? ⟨b2, 1, none⟩ = some (.int .u16 (m.tag : Int)) := by rw [cell_of_row _ _ _ _ _ _ hrow]; rfl
  have k0 : w2.cell? ⟨b2, 0, none⟩ = some (.int .u8 (m.kind : Int)) := hP.orig 0
  have k9 : w2.cell? ⟨b2, 9, none⟩ = some (.int .u32 (m.fid : Int)) := hP.orig 9
  have hcn := ha.client
  have HC2 := Lib.hid hrow
  have HBL := Lib.hid (built115' m vn vq vd n m.tag)
  have HIN := Lib.hid (info47 m vn vq vd)
  have HA := Lib.hid ha
  have HT := Lib.hid ht
  have HSM := Lib.hid hsm
  have HP := Lib.hid hP
  rw [hk] at k0
  have HK := Lib.hid hk
  subst hc
  clear h hm hP hrow ha ht hsm hb2 hk
  generalize hmc : (msgC m vn vq vd).toArray = mc at *
  generalize hrc : (reqC m vn vq vd n false m.tag false (.slice none 0 0) (.pointer none) .nilFunc).toArray = rc at *
  clear hrc
  go_enter Tryz.func61, Tryz.ntmps61
  go_wp2_with (first | (refine wpList_load_row rfl 47 _ rfl b2 rfl 47 mc (0, 0) _ HC2.out Tryz.underlying47 rfl HIN.out ?_) | (refine wpList_built rfl 115 _ rfl rc (by simp only [List.map_toArray, List.map_cons, List.map_nil]; exact HBL.out) ?_))
  refine (HP.out.known (by simp) hcn.2 m.fid HA.out.fits.fid).mono ?_
  rintro e w3 ⟨rfl, vu1, hp⟩
  have f9 := hp.frozen 9
  have d9 : w3.cell? ⟨b, 9, none⟩ = some (.int .u32 (m.fid : Int)) := hp.cell 9
  have hp2 := hp.set (m' := { m with fid := (R.old n m.fid).1 }) (i := 9) (v := .int .u32 (((R.old n m.fid).1 : Nat) : Int)) rfl ⟨rfl, rfl, rfl⟩
  generalize hw4 : w3.setCell ⟨b, 9, none⟩ (.int .u32 (((R.old n m.fid).1 : Nat) : Int)) = w4 at *
  have HE0 : Hid (R.turned n m = some (R, { m with fid := (R.old n m.fid).1 }, [(R.old n m.fid).2], 0, (R.old n m.fid).2)) := Lib.hid (by unfold RelP.turned; rw [if_neg (by rw [HK.out]; decide), if_neg (by rw [HK.out]; decide), if_neg (by rw [HK.out]; decide)])
  have hu2 : (addUse [] (R.old n m.fid).2).length ≤ 2 := Nat.le_trans (addUse_len _ _) (by simp)
  have HT2 := HT
  have k0' : w4.cell? ⟨b2, 0, none⟩ = some (.int .u8 (m.kind : Int)) := hp2.orig 0
  rw [HK.out] at k0'
  have k21 : w4.cell? ⟨b2, 21, none⟩ = some (.int .u32 (m.count : Int)) := hp2.orig 21
  have f21 := hp2.frozen 21
  have d21 : w4.cell? ⟨b, 21, none⟩ = some (.int .u32 (m.count : Int)) := hp2.cell 21
  have cm : w4.cell? ⟨G.cb (n - 1), 0, none⟩ = some (.int .u32 ((R.cli n).msize : Int)) := hp2.rest.msize hcn
  have hms := HA.out.live.1
  have hms2 : (R.cli n).msize < 4294967296 := by
    obtain ⟨vo, h1, -⟩ := hp2.rest.ex
    have h2 := (h1.wf.cli _ (List.mem_of_getElem? (cli_at hcn))).2.1
    have h3 := h1.wf.msize.2
    omega
  have hsub : IntKind.u32.wrap (((R.cli n).msize : Int) - 24) = (((R.cli n).msize - 24 : Nat) : Int) := by
    have : ((((R.cli n).msize - 24 : Nat) : Nat) : Int) = ((R.cli n).msize : Int) - 24 := by omega
    rw [this]
    simp [IntKind.wrap, IntKind.signed, IntKind.bits]
    omega
  have hp3 := hp2.set (m' := { m with fid := (R.old n m.fid).1, count := min m.count ((R.cli n).msize - 24) }) (i := 21) (v := .int .u32 ((min m.count ((R.cli n).msize - 24) : Nat) : Int)) rfl ⟨rfl, rfl, rfl⟩
  have HP3 := Lib.hid hp3
  clear hp hp2 HP hp3
  go_wp2_with fail
  go_region
  rw [show min (m.count : Int) (((R.cli n).msize - 24 : Nat) : Int) = ((min m.count ((R.cli n).msize - 24) : Nat) : Int) from by omega]
  have hp5 := HP3.out.still ((Mods.refl [] _).drew)
  generalize hw5 : (w4.setCell ⟨b, 21, none⟩ (.int .u32 ((min m.count ((R.cli n).msize - 24) : Nat) : Int))).drew = w5 at *
  have HTK : Hid (R.Takes (passQ n false m.kind m.tag (addUse [] (R.old n m.fid).2) 0 (R.old n m.fid).2 m.names.length)) := Lib.hid (takes_pass HA.out rfl rfl hp5.made.ids (fun h => absurd rfl h) hu2)
  have HS := Lib.hid ((hp5.made.keep (K' := listB vn vq vd ++ K) (fun k hk => List.mem_cons_of_mem _ hk)).sends hp5.own HSM.out (by show m.kind ≠ 108; rw [HK.out]; decide) HT2.out rfl HTK.out hL)
  clear hp5 HP3
  go_wp2_with fail
  refine HS.out.mono ?_
  rintro e wx ⟨c1, c2, c3, c4, rfl, g1, g2, g3⟩
  have H3 := Lib.hid g3
  clear g3
  go_wp2_with fail
  refine H3.out.mono ?_
  rintro e wy ⟨rfl, o, G2, -, o1, o2, o3⟩
  have I1 := Lib.hid o1
  have I2 := Lib.hid o2
  have I3 := Lib.hid o3
  clear o1 o2 o3
  go_wp2_with fail
  go_end0
  exact ⟨rfl, outs_pass (G' := G2) HE0.out HT2.out (addUse_one _) (by rw [if_pos HK.out]) I1.out I2.out I3.out⟩
/-- passes. -/
theorem passes_any {t : Nat} (h : St w0 F0 (listB vn vq vd ++ K) r R R.used G L w) (hm : OwnM w 0 m vn vq vd) (hsm : m.names.length ≤ 100000000 ∧ m.qids.length ≤ 100000000 ∧ m.data.length ≤ 100000000) (ha : R.Asks n m) (hk : m.kind ≠ 108) (ht : R.tag = some t) (hL : L.length ≤ 1000) :
    Calls Tryz.prog 61 #[.pointer (some ⟨r, 0, none⟩), .int .i64 (n : Int), .pointer (some ⟨G.cb (n - 1), 0, none⟩), .agg (msgC m vn vq vd).toArray] w fun e w' => e = .returned (.tuple #[]) ∧ Outs w0 F0 K r (R.passP n m) L w' := by
  by_cases h1 : m.kind = 102
  · exact passes_auth h hm hsm ha h1 ht hL
  · by_cases h2 : m.kind = 104
    · exact passes_attach h hm hsm ha h2 ht hL
    · by_cases h3 : m.kind = 110
      · exact passes_walk h hm hsm ha h3 ht hL
      · by_cases h4 : m.kind = 116
        · exact passes_read h hm hsm ha h4 rfl ht hL
        · exact passes_rest h hm hsm ha ⟨h1, h2, h3, hk⟩ h4 ht hL
end
end Go.Proofs.YtlgoeipgmjcboaaGreatDoor
