/- The walk of done: both writers are asked, twice. -/
import Derived.Test.YtedddekkbgaolaaDoorBo
namespace Go.Proofs.YtedddekkbgaolaaDoor
open Go.RowKit Me

theorem Me.Pc.Ent.last4 (p q r s : Pc) : Pc.Ent (p.star (q.star (r.star s))) (s.star (p.star (q.star r))) :=
  ((Pc.Ent.refl p).mono (((Pc.Ent.refl q).mono (Pc.Ent.comm r s)).trans (Pc.Ent.swap q s r))).trans (Pc.Ent.swap p s _)
theorem done_len {S : WSt} (h : S.Wf) : S.done.1.length ≤ 16777216 := by
  unfold WSt.done
  have := h.bytes
  have := h.limit
  repeat' split
  all_goals simp
  omega
set_option maxRecDepth 100000 in
set_option maxHeartbeats 1000000 in
theorem done2_any {w : World} {a c b : Nat} {S V : WSt} {vl vm vh vt : Value} {B : List (List UInt8)} {F : List Nat} (h : ((Wr 122 a S).star ((Wr 124 c V).star (BkN b vl vm vh vt B))).A w F) (hB : B.length ≤ 99999998) :
    Calls Tryd.prog 27 #[.pointer (some ⟨a, 0, none⟩), .pointer (some ⟨c, 0, none⟩), .pointer (some ⟨b, 0, none⟩)] w fun e w' => ∃ res : Bool, (S = V → res = true) ∧ e = .returned (.bool res) ∧ Post ((Wr 122 a S).star ((Wr 124 c V).star (BkN b vl vm vh vt (B ++ [S.done.1] ++ [S.done.1])))) w F w' := by
  have hp := Post.start h
  have H0 := Lib.hid hp
  obtain ⟨vb, vo, hi⟩ := hp.isW
  obtain ⟨vb2, vo2, hi2⟩ := (hp.ent (Pc.Ent.swap _ _ _)).isW
  have hdl := done_len hi.wf
  have hvl := done_len hi2.wf
  have HD := Lib.hid (done_any hi)
  have HI := Lib.hid hi
  have HI2 := Lib.hid hi2
  have HEQ : Hid (S = V → decide (S.done.1 = V.done.1) = true ∧ ((S.done.2 : Int) == (V.done.2 : Int)) = true) := Lib.hid (by rintro rfl; simp)
  clear h hp hi hi2
  generalize hdd : S.done.1 = d at *
  generalize hde : S.done.2 = er at *
  generalize hvd : V.done.1 = dv at *
  generalize hve : V.done.2 = fr at *
  have HDD := Lib.hid hdd
  have HDE := Lib.hid hde
  have HVD := Lib.hid hvd
  have HVE := Lib.hid hve
  clear hdd hde hvd hve
  go_enter Tryd.func27, Tryd.ntmps27
  go_wp2_with fail
  refine HD.out.mono ?_; rintro e w1 ⟨v1, rfl, ho1, hm1⟩
  have H1 := Lib.hid (H0.out.add (q := rowOf v1 d) hm1 ⟨ownsRow_base ho1 (Nat.zero_le _), rfl⟩ (fun k hk => (ho1.lt k (by simpa using hk)).1))
  have HM1 := Lib.hid hm1
  have HO1 := Lib.hid (Rd.of_own ho1)
  obtain ⟨A1, c1, rfl⟩ := own_ctor ho1
  have HV := Lib.hid (vdone_any (HI2.out.mods hm1 (by simp)))
  rw [HVD.out, HVE.out] at HV
  clear ho1 hm1
  go_wp2_with fail
  refine HV.out.mono ?_; rintro e w2 ⟨v2, rfl, ho2, hm2⟩
  have H2 := Lib.hid (H1.out.still hm2)
  have HM2 := Lib.hid (HM1.out.trans hm2 (by simp))
  have HO2 := Lib.hid (Rd.of_own ho2)
  have HO1b := Lib.hid (HO1.out.mods hm2 (by simp))
  obtain ⟨A2, c2, rfl⟩ := own_ctor ho2
  clear ho2 hm2
  go_wp2_with fail
  refine (same_any d dv HO1b.out HO2.out (by unfold maxLen; omega) (by unfold maxLen; omega)).mono ?_; rintro e w3 ⟨rfl, k3, rfl⟩
  have hm3 : Mods [] w2 (w2.drewN k3) := (Mods.refl _ _).drewN k3
  have H3 := Lib.hid (H2.out.still hm3)
  have HM3 := Lib.hid (HM2.out.trans hm3 (by simp))
  have HO2b := Lib.hid (HO2.out.mods hm3 (by simp))
  clear hm3
  generalize w2.drewN k3 = w3 at *
  have HD3 := Lib.hid (done_any (HI.out.mods HM3.out (by simp)))
  rw [HDD.out, HDE.out] at HD3
  have HSA := Lib.hid (fun (w : World) (va vb : Value) (ha : Rd w va (d.map byteV)) (hb : Rd w vb (dv.map byteV)) => same_any d dv ha hb (by unfold maxLen; omega) (by unfold maxLen; omega))
  generalize decide (d = dv) = r1 at *
  go_wp2_with fail
  refine HD3.out.mono ?_; rintro e w4 ⟨v4, rfl, ho4, hm4⟩
  have H4 := Lib.hid (H3.out.add (q := rowOf v4 d) hm4 ⟨ownsRow_base ho4 (Nat.zero_le _), rfl⟩ (fun k hk => (ho4.lt k (by simpa using hk)).1))
  have HO4 := Lib.hid (Rd.of_own ho4)
  have HO2c := Lib.hid (HO2b.out.mods hm4 (by simp))
  obtain ⟨A4, c4, rfl⟩ := own_ctor ho4
  clear ho4 hm4
  go_wp2_with fail
  refine (HSA.out _ _ _ HO4.out HO2c.out).mono ?_; rintro e w5 ⟨rfl, k5, rfl⟩
  have H5 := Lib.hid ((H4.out.still ((Mods.refl _ _).drewN k5)).ent ((Pc.Ent.swap _ _ _).trans (((Pc.Ent.refl _).mono (Pc.Ent.last4 _ _ _ _)).trans (Pc.Ent.assoc' _ _ _))))
  go_wp2_with fail
  refine (H5.out.call fun F1 hF => owns_any hF (by omega) (by omega)).mono ?_; rintro e w6 ⟨rfl, hp6⟩
  have H6 := Lib.hid (hp6.ent ((Pc.Ent.swap _ _ _).trans (Pc.Ent.assoc' _ _ _)))
  clear hp6
  go_wp2_with fail
  refine (H6.out.call fun F1 hF => owns_any hF (by omega) (by simp; omega)).mono ?_; rintro e w7 ⟨rfl, hp7⟩
  have H7 := Lib.hid (hp7.ent ((Pc.Ent.comm _ _).trans (Pc.Ent.assoc _ _ _)))
  clear hp7
  generalize hr2 : ((er : Int) == (fr : Int)) = r2 at HEQ
  cases r1
  · go_wp2_with fail
    go_ret
    exact ⟨false, fun h => (HEQ.out h).1, rfl, H7.out⟩
  · cases r2
    · go_wp2_with fail
      go_ret
      exact ⟨false, fun h => (HEQ.out h).2, rfl, H7.out⟩
    · go_wp2_with fail
      go_ret
      exact ⟨true, fun _ => rfl, rfl, H7.out⟩
end Go.Proofs.YtedddekkbgaolaaDoor
