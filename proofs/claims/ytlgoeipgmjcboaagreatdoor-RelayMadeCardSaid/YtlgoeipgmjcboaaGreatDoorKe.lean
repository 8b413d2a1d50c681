/- In: a client's request. | Leave: a client's session ends. -/
import Derived.Test.YtlgoeipgmjcboaaGreatDoorKc
namespace Go.Proofs.YtlgoeipgmjcboaaGreatDoor
open Go.RowKit Me
/-- A relay that nobody asks; what is so of the memory besides. -/
structure Rest (w : World) (r : Nat) (R : RelP) (G : Gh) : Prop where
  rel : IsRel w r R R.used G nilS
  env : Env w G.F
  tabs : Lib.Utf8Tabs 4 5 w
/-- What a call of a relay leaves that began at w0: what has come out, and a relay that nobody asks. -/
def Done (w0 : World) (F0 : List Nat) (r : Nat) (x : RelP × List OutP) (vo : Value) (w : World) : Prop :=
  ∃ (L : List OutV) (G : Gh), L.map OutV.plain = asInt x.2 ∧ IsRel w r x.1 x.1.used G nilS ∧ OutsR w w0.heap.size vo L ∧ (∀ k ∈ G.F, k ∉ outB vo L) ∧ Mods F0 w0 w ∧ ∀ k ∈ G.F, k ∈ F0 ∨ w0.heap.size ≤ k
section
variable {w0 w w' : World} {F0 K : List Nat} {r n : Nat} {R R' : RelP} {G G' : Gh} {L : List OutV} {m : MsgP} {vn vq vd : Value}
theorem St.begin (h : IsRel w r R R.used G nilS) (hK : ∀ k ∈ K, k < w.heap.size ∧ k ∉ G.F) : St w G.F K r R R.used G [] w :=
  ⟨⟨nilS, h, ⟨⟨rfl, Or.inl ⟨rfl, rfl⟩⟩, by simp, by simp⟩, by simp [outB, nilS, Value.ownBlock], fun k hk => ⟨(hK k hk).1, (hK k hk).2, by simp [outB, nilS, Value.ownBlock]⟩⟩, Mods.refl _ _, fun k hk => Or.inl hk⟩
theorem St.start (h : IsRel w' r R R.used G nilS) (hm : Mods F0 w0 w') (hs : ∀ k ∈ G.F, k ∈ F0 ∨ w0.heap.size ≤ k) (hK : ∀ k ∈ K, k < w'.heap.size ∧ k ∉ G.F) : St w0 F0 K r R R.used G [] w' :=
  ⟨⟨nilS, h, ⟨⟨rfl, Or.inl ⟨rfl, rfl⟩⟩, by simp, by simp⟩, by simp [outB, nilS, Value.ownBlock], fun k hk => ⟨(hK k hk).1, (hK k hk).2, by simp [outB, nilS, Value.ownBlock]⟩⟩, hm, hs⟩
theorem done_none (h : IsRel w r R R.used G nilS) (hm : Mods [] w w') : Done w G.F r (R, []) nilS w' :=
  ⟨[], G, rfl, h.still hm, ⟨⟨rfl, Or.inl ⟨rfl, rfl⟩⟩, by simp, by simp⟩, by simp [outB, nilS, Value.ownBlock], hm.mono (by simp), fun _ hk => Or.inl hk⟩
theorem took_outs {x : RelP × List OutP} (h : Outs w0 F0 K r x [] w) : Calls Tryz.prog 31 #[.pointer (some ⟨r, 0, none⟩)] w fun e w' => ∃ A k c, e = .returned (.slice A k c) ∧ Done w0 F0 r x (.slice A k c) w' := by
  obtain ⟨L', G', hp, hst⟩ := h
  rw [List.nil_append] at hst
  obtain ⟨vo, h1, h2, h3, h4⟩ := hst.ex
  obtain ⟨A, c, rfl, -⟩ := ownsRow_slice h2.row
  refine (took_any h1 ⟨A, _, c, rfl⟩).mono ?_
  rintro e w' ⟨rfl, rfl⟩
  have hm : Mods [r] w (w.setCell ⟨r, 6, none⟩ (.slice none 0 0)) := (Mods.refl [r] w).setCell (p := ⟨r, 6, none⟩) (Or.inl (by simp)) _
  refine ⟨A, _, c, rfl, L', G', hp, h1.setOut nilS, h2.modsX hm (fun k hk hk' => h3 r h1.here.1 (by simp at hk'; rw [← hk']; exact hk)), h3, hst.mods.trans hm (fun k hk => ?_), hst.sub⟩
  simp at hk
  subst hk
  exact hst.sub _ h1.here.1
theorem inn_none {n : Int} (h : ¬ R.isIn n) : R.inn n m = ((R, []), 200) := by
  unfold RelP.inn
  rw [if_pos (Or.inl h)]
theorem inn_ending {n : Int} (h : (R.cli n.toNat).ending = true) : R.inn n m = ((R, []), 200) := by
  unfold RelP.inn
  rw [if_pos (Or.inr h)]
theorem inn_big {n : Int} (h : R.isIn n) (h2 : (R.cli n.toNat).ending = false) (h3 : R.limit n.toNat < m.size) : R.inn n m = ((R, []), 31) := by
  unfold RelP.inn
  rw [if_neg (by rw [h2]; simp [h]), if_pos h3]
theorem inn_takes {n : Int} (h : R.isIn n) (h2 : (R.cli n.toNat).ending = false) (h3 : ¬ R.limit n.toNat < m.size) : R.inn n m = (R.takes n.toNat m, 0) := by
  unfold RelP.inn
  rw [if_neg (by rw [h2]; simp [h]), if_neg h3]
set_option maxRecDepth 100000 in
set_option maxHeartbeats 16000000 in
theorem in_any (h : Rest w r R G) (n : Int) (hsm : SmallM m) (hr : MsgR w m vn vq vd) (hp : PlainM vn vq vd) :
    Calls Tryz.prog 11 #[.pointer (some ⟨r, 0, none⟩), .int .i64 n, .agg (msgC m vn vq vd).toArray] w fun e w' => ∃ A k c, e = .returned (.tuple #[.slice A k c, .int .i64 ((R.inn n m).2 : Int)]) ∧ Done w G.F r (R.inn n m).1 (.slice A k c) w' := by
  have hm1 := (Mods.refl [] w).alloc (.cells (msgC m vn vq vd).toArray 47)
  have hrow := heap_alloc_new w (.cells (msgC m vn vq vd).toArray 47)
  have hrel1 := h.rel.still hm1
  have HR := Lib.hid h
  have HMR := Lib.hid (hr.mods hm1)
  have HTB := Lib.hid (tabs_mods hm1 h.tabs)
  have HM1 := Lib.hid hm1
  have HROW := Lib.hid hrow
  have HSM := Lib.hid hsm
  have HP := Lib.hid hp
  have HIN := Lib.hid (info47 m vn vq vd)
  have hmany := h.rel.wf.many
  generalize hw1 : w.alloc (.cells (msgC m vn vq vd).toArray 47) = w1 at *
  generalize hb2 : w.heap.size = b2 at *
  have c0 : w1.cell? ⟨r, 0, none⟩ = some (.int .u32 (R.msize : Int)) := hrel1.cell 0
  by_cases hin : R.isIn n
  · obtain ⟨k, rfl⟩ : ∃ k : Nat, n = ((k + 1 : Nat) : Int) := ⟨(n - 1).toNat, by have := hin.1; omega⟩
    have hk : k < R.clients.length := by have := hin.2; omega
    have hcl := client_in hrel1 k hk
    have HS1 : Hid (St w1 G.F [] r R R.used G [] w1) := Lib.hid (St.begin hrel1 (by simp))
    have hN : 1 ≤ k + 1 ∧ k + 1 ≤ R.clients.length := ⟨by omega, by omega⟩
    have c1 : w1.cell? ⟨G.cb k, 0, none⟩ = some (.int .u32 ((R.cli (k + 1)).msize : Int)) := HS1.out.msize hN
    obtain ⟨hbF, p, hcrow, -⟩ := hrel1.cli k (R.cli (k + 1)) (cli_at hN)
    have c2 : w1.cell? ⟨G.cb k, 1, none⟩ = some (.bool (R.cli (k + 1)).ending) := by rw [cell_of_row _ _ _ _ _ _ hcrow]; rfl
    have HCL := Lib.hid hcl
    have HIS := Lib.hid hin
    have HN := Lib.hid hN
    have hms : (R.cli (k + 1)).msize ≤ 65536 := by
      have h1 := (hrel1.wf.cli _ (List.mem_of_getElem? (cli_at hN))).2.1
      have h2 := hrel1.wf.msize.2
      omega
    have hms2 := hrel1.wf.msize
    cases eE : (R.cli (k + 1)).ending with
    | true =>
      rw [eE] at c2
      have HY : Hid (R.inn ((k + 1 : Nat) : Int) m = ((R, []), 200)) := Lib.hid (inn_ending eE)
      clear h hm1 hrow hrel1 hr hsm hp hin hcl hcrow eE
      generalize (msgC m vn vq vd).toArray = mc at *
      go_enter Tryz.func11, Tryz.ntmps11
      go_wp2_with fail
      refine HCL.out.mono ?_
      rintro e w2 ⟨rfl, rfl⟩
      go_wp2_with fail
      go_ret2
      rw [HY.out]
      exact ⟨none, 0, 0, rfl, done_none HR.out.rel HM1.out⟩
    | false =>
      rw [eE] at c2
      have HSZ := Lib.hid (size_any m hsm w1 HMR.out HTB.out)
      have HE := Lib.hid eE
      clear h hm1 hrow hrel1 hr hsm hp hin hcl hcrow eE
      generalize hmc : (msgC m vn vq vd).toArray = mc at *
      go_enter Tryz.func11, Tryz.ntmps11
      go_wp2_with fail
      refine HCL.out.mono ?_
      rintro e w2 ⟨rfl, rfl⟩
      by_cases hz : 0 < (R.cli (k + 1)).msize
      · have bz : decide ((0 : Int) < ((R.cli (k + 1)).msize : Int)) = true := by simpa using hz
        have HLIM : Hid (R.limit (k + 1) = (R.cli (k + 1)).msize) := Lib.hid (by
          unfold RelP.limit
          rw [if_pos hz])
        go_wp2_with (refine wpList_load_row rfl 47 _ rfl b2 rfl 47 mc (0, 0) _ HROW.out Tryz.underlying47 rfl HIN.out ?_)
        refine HSZ.out.mono ?_
        rintro e w3 ⟨rfl, hm3⟩
        have HM3 := Lib.hid (HM1.out.trans hm3 (by simp))
        have HROW3 := Lib.hid (hm3.heap HROW.out (by simp))
        have HMR3 := Lib.hid (HMR.out.mods hm3)
        have HOW := Lib.hid (own_any m HSM.out.lists w3 HMR3.out HP.out)
        rw [hmc] at HOW
        clear hm3
        by_cases hb : (R.cli (k + 1)).msize < m.size
        · have bb : decide (((R.cli (k + 1)).msize : Int) < (m.size : Int)) = true := by simpa using hb
          have HY : Hid (R.inn ((k + 1 : Nat) : Int) m = ((R, []), 31)) := Lib.hid (inn_big HIS.out HE.out (by
            show R.limit (k + 1) < m.size
            rw [HLIM.out]
            exact hb))

          go_wp2_with fail
          go_ret2
          rw [HY.out]
          exact ⟨none, 0, 0, rfl, done_none HR.out.rel HM3.out⟩
        · have bb : decide (((R.cli (k + 1)).msize : Int) < (m.size : Int)) = false := by simpa using hb
          have HY : Hid (R.inn ((k + 1 : Nat) : Int) m = (R.takes (k + 1) m, 0)) := Lib.hid (inn_takes HIS.out HE.out (by
            show ¬ R.limit (k + 1) < m.size
            rw [HLIM.out]
            exact hb))

          go_wp2_with (refine wpList_load_row rfl 47 _ rfl b2 rfl 47 mc (0, 0) _ HROW3.out Tryz.underlying47 rfl HIN.out ?_)
          refine HOW.out.mono ?_
          rintro e w4 ⟨vn', vq', vd', rfl, ho, hm4⟩
          have hm04 := HM3.out.trans hm4 (by simp)
          have hst : St w G.F (listB vn' vq' vd' ++ []) r R R.used G [] w4 := St.start (HR.out.rel.still hm04) (hm04.mono (by simp)) (fun _ hk => Or.inl hk) (fun j hj => by
            rw [List.append_nil] at hj
            have h1 := ho.lt j hj
            exact ⟨h1.2, fun h2 => by
              have h3 := HR.out.rel.lt j h2
              have h4 := HM3.out.size
              omega⟩)
          have hta := takes_any (n := k + 1) hst HR.out.env ⟨ownsRow_base ho.names (Nat.zero_le _), ownsRow_base ho.qids (Nat.zero_le _), ownsRow_base ho.data (Nat.zero_le _)⟩ HSM.out (tabs_mods hm04 HR.out.tabs) HN.out HE.out (by simp)
          rw [show ((k + 1 : Nat) : Int) = (k : Int) + 1 from by simp] at hta
          change Calls Tryz.prog 29 #[.pointer (some ⟨r, 0, none⟩), .int .i64 ((k : Int) + 1), .pointer (some ⟨G.cb k, 0, none⟩), .agg (msgC m vn' vq' vd').toArray] w4 _ at hta
          have HTA := Lib.hid hta
          clear hta hst hm04 ho hm4
          generalize (msgC m vn' vq' vd').toArray = mo at *
          go_wp2_with fail
          refine HTA.out.mono ?_
          rintro e w5 ⟨rfl, ho⟩
          have HTO := Lib.hid (took_outs ho)
          clear ho
          go_wp2_with fail
          refine HTO.out.mono ?_
          rintro e w6 ⟨A, kk, cc, rfl, hd⟩
          have HD := Lib.hid hd
          clear hd
          go_wp2_with fail
          go_ret2
          rw [HY.out]
          exact ⟨A, kk, cc, rfl, HD.out⟩
      · have hz0 : (R.cli (k + 1)).msize = 0 := by omega
        rw [hz0] at c1
        have HZ := Lib.hid hz
        clear hz hz0
        have HLIM : Hid (R.limit (k + 1) = R.msize) := Lib.hid (by
          unfold RelP.limit
          rw [if_neg HZ.out])
        go_wp2_with (refine wpList_load_row rfl 47 _ rfl b2 rfl 47 mc (0, 0) _ HROW.out Tryz.underlying47 rfl HIN.out ?_)
        refine HSZ.out.mono ?_
        rintro e w3 ⟨rfl, hm3⟩
        have HM3 := Lib.hid (HM1.out.trans hm3 (by simp))
        have HROW3 := Lib.hid (hm3.heap HROW.out (by simp))
        have HMR3 := Lib.hid (HMR.out.mods hm3)
        have HOW := Lib.hid (own_any m HSM.out.lists w3 HMR3.out HP.out)
        rw [hmc] at HOW
        clear hm3
        by_cases hb : R.msize < m.size
        · have bb : decide ((R.msize : Int) < (m.size : Int)) = true := by simpa using hb
          have HY : Hid (R.inn ((k + 1 : Nat) : Int) m = ((R, []), 31)) := Lib.hid (inn_big HIS.out HE.out (by
            show R.limit (k + 1) < m.size
            rw [HLIM.out]
            exact hb))

          go_wp2_with fail
          go_ret2
          rw [HY.out]
          exact ⟨none, 0, 0, rfl, done_none HR.out.rel HM3.out⟩
        · have bb : decide ((R.msize : Int) < (m.size : Int)) = false := by simpa using hb
          have HY : Hid (R.inn ((k + 1 : Nat) : Int) m = (R.takes (k + 1) m, 0)) := Lib.hid (inn_takes HIS.out HE.out (by
            show ¬ R.limit (k + 1) < m.size
            rw [HLIM.out]
            exact hb))

          go_wp2_with (refine wpList_load_row rfl 47 _ rfl b2 rfl 47 mc (0, 0) _ HROW3.out Tryz.underlying47 rfl HIN.out ?_)
          refine HOW.out.mono ?_
          rintro e w4 ⟨vn', vq', vd', rfl, ho, hm4⟩
          have hm04 := HM3.out.trans hm4 (by simp)
          have hst : St w G.F (listB vn' vq' vd' ++ []) r R R.used G [] w4 := St.start (HR.out.rel.still hm04) (hm04.mono (by simp)) (fun _ hk => Or.inl hk) (fun j hj => by
            rw [List.append_nil] at hj
            have h1 := ho.lt j hj
            exact ⟨h1.2, fun h2 => by
              have h3 := HR.out.rel.lt j h2
              have h4 := HM3.out.size
              omega⟩)
          have hta := takes_any (n := k + 1) hst HR.out.env ⟨ownsRow_base ho.names (Nat.zero_le _), ownsRow_base ho.qids (Nat.zero_le _), ownsRow_base ho.data (Nat.zero_le _)⟩ HSM.out (tabs_mods hm04 HR.out.tabs) HN.out HE.out (by simp)
          rw [show ((k + 1 : Nat) : Int) = (k : Int) + 1 from by simp] at hta
          change Calls Tryz.prog 29 #[.pointer (some ⟨r, 0, none⟩), .int .i64 ((k : Int) + 1), .pointer (some ⟨G.cb k, 0, none⟩), .agg (msgC m vn' vq' vd').toArray] w4 _ at hta
          have HTA := Lib.hid hta
          clear hta hst hm04 ho hm4
          generalize (msgC m vn' vq' vd').toArray = mo at *
          go_wp2_with fail
          refine HTA.out.mono ?_
          rintro e w5 ⟨rfl, ho⟩
          have HTO := Lib.hid (took_outs ho)
          clear ho
          go_wp2_with fail
          refine HTO.out.mono ?_
          rintro e w6 ⟨A, kk, cc, rfl, hd⟩
          have HD := Lib.hid hd
          clear hd
          go_wp2_with fail
          go_ret2
          rw [HY.out]
          exact ⟨A, kk, cc, rfl, HD.out⟩
  · have hcl := client_out hrel1 n (by
      unfold RelP.isIn at hin
      omega)
    have HCL := Lib.hid hcl
    have HY : Hid (R.inn n m = ((R, []), 200)) := Lib.hid (inn_none hin)
    clear h hm1 hrow hrel1 hr hsm hp hin hcl
    generalize (msgC m vn vq vd).toArray = mc at *
    go_enter Tryz.func11, Tryz.ntmps11
    go_wp2_with fail
    refine HCL.out.mono ?_
    rintro e w2 ⟨rfl, rfl⟩
    go_wp2_with fail
    go_ret2
    rw [HY.out]
    exact ⟨none, 0, 0, rfl, done_none HR.out.rel HM1.out⟩
end
end Go.Proofs.YtlgoeipgmjcboaaGreatDoor
namespace Go.Proofs.YtlgoeipgmjcboaaGreatDoor
open Go.RowKit Me
section
variable {w0 w w' : World} {F0 K : List Nat} {r n : Nat} {R R' : RelP} {G G' : Gh} {L : List OutV}
theorem outs_none (h : St w0 F0 K r R R.used G [] w) : Outs w0 F0 K r (R, []) [] w := ⟨[], G, rfl, by rw [List.append_nil]; exact h⟩
theorem leave_ends {n : Int} (h : R.isIn n) (h2 : 0 < (R.cli n.toNat).msize ∨ (R.cli n.toNat).ending = true) : R.leave n = (R.ends n.toNat false ⟨#[]⟩ 0, 0) := by
  unfold RelP.leave
  rw [if_neg (fun e => e h), if_pos h2]
theorem leave_not {n : Int} (h : R.isIn n) (h2 : ¬ (0 < (R.cli n.toNat).msize ∨ (R.cli n.toNat).ending = true)) : R.leave n = ((R, []), 0) := by
  unfold RelP.leave
  rw [if_neg (fun e => e h), if_neg h2]
set_option maxRecDepth 100000 in
set_option maxHeartbeats 8000000 in
theorem leave_any (h : Rest w r R G) (n : Int) :
    Calls Tryz.prog 18 #[.pointer (some ⟨r, 0, none⟩), .int .i64 n] w fun e w' => ∃ A k c, e = .returned (.tuple #[.slice A k c, .int .i64 ((R.leave n).2 : Int)]) ∧ Done w G.F r (R.leave n).1 (.slice A k c) w' := by
  by_cases hin : R.isIn n
  · obtain ⟨k, rfl⟩ : ∃ k : Nat, n = ((k + 1 : Nat) : Int) := ⟨(n - 1).toNat, by have := hin.1; omega⟩
    have hk : k < R.clients.length := by have := hin.2; omega
    have hN : 1 ≤ k + 1 ∧ k + 1 ≤ R.clients.length := ⟨by omega, by omega⟩
    have hst : St w G.F [] r R R.used G [] w := St.start h.rel (Mods.refl _ _) (fun _ hk => Or.inl hk) (by simp)
    have HCL := Lib.hid (client_in h.rel k hk)
    have c1 : w.cell? ⟨G.cb k, 0, none⟩ = some (.int .u32 ((R.cli (k + 1)).msize : Int)) := hst.msize hN
    obtain ⟨hbF, p, hcrow, -⟩ := h.rel.cli k (R.cli (k + 1)) (cli_at hN)
    have c2 : w.cell? ⟨G.cb k, 1, none⟩ = some (.bool (R.cli (k + 1)).ending) := by rw [cell_of_row _ _ _ _ _ _ hcrow]; rfl
    have hcl := h.rel.wf.cli _ (List.mem_of_getElem? (cli_at hN))
    have hend := end_any (n := k + 1) (p := none) (waits := false) (ver := ⟨#[]⟩) (vsize := 0) hst h.env hN ⟨hcl.1, hcl.2.1, (by show 0 < 4294967296; omega), fun e => (by cases e), (by show 0 ≤ 100000000; omega)⟩ (fun _ => rfl) (fun e => by cases e) (by simp)
    rw [show ((k + 1 : Nat) : Int) = (k : Int) + 1 from by simp] at hend
    change Calls Tryz.prog 51 #[.pointer (some ⟨r, 0, none⟩), .int .i64 ((k : Int) + 1), .pointer (some ⟨G.cb k, 0, none⟩), .pointer none] w _ at hend
    have HEND := Lib.hid hend
    have HN0 := Lib.hid (took_outs (outs_none hst))
    have HIS := Lib.hid hin
    have hms : (R.cli (k + 1)).msize ≤ 65536 := by
      have h2 := h.rel.wf.msize.2
      omega
    clear hst hcrow hcl hend h hin
    by_cases hz : 0 < (R.cli (k + 1)).msize
    · have HY : Hid (R.leave ((k + 1 : Nat) : Int) = (R.ends (k + 1) false ⟨#[]⟩ 0, 0)) := Lib.hid (leave_ends HIS.out (Or.inl hz))
      go_enter Tryz.func18, Tryz.ntmps18
      go_wp2_with fail
      refine HCL.out.mono ?_
      rintro e w2 ⟨rfl, rfl⟩
      go_wp2_with fail
      refine HEND.out.mono ?_
      rintro e w3 ⟨rfl, hw⟩
      have HTO := Lib.hid (took_outs hw.outs)
      clear hw
      go_wp2_with fail
      refine HTO.out.mono ?_
      rintro e w4 ⟨A, kk, cc, rfl, hd⟩
      have HD := Lib.hid hd
      clear hd
      go_wp2_with fail
      go_ret2
      rw [HY.out]
      exact ⟨A, kk, cc, rfl, HD.out⟩
    · have hz0 : (R.cli (k + 1)).msize = 0 := by omega
      rw [hz0] at c1
      have HZ := Lib.hid hz
      clear hz hz0
      cases eE : (R.cli (k + 1)).ending with
      | true =>
        rw [eE] at c2
        have HY : Hid (R.leave ((k + 1 : Nat) : Int) = (R.ends (k + 1) false ⟨#[]⟩ 0, 0)) := Lib.hid (leave_ends HIS.out (Or.inr eE))
        clear eE
        go_enter Tryz.func18, Tryz.ntmps18
        go_wp2_with fail
        refine HCL.out.mono ?_
        rintro e w2 ⟨rfl, rfl⟩
        go_wp2_with fail
        refine HEND.out.mono ?_
        rintro e w3 ⟨rfl, hw⟩
        have HTO := Lib.hid (took_outs hw.outs)
        clear hw
        go_wp2_with fail
        refine HTO.out.mono ?_
        rintro e w4 ⟨A, kk, cc, rfl, hd⟩
        have HD := Lib.hid hd
        clear hd
        go_wp2_with fail
        go_ret2
        rw [HY.out]
        exact ⟨A, kk, cc, rfl, HD.out⟩
      | false =>
        rw [eE] at c2
        have HY : Hid (R.leave ((k + 1 : Nat) : Int) = ((R, []), 0)) := Lib.hid (leave_not HIS.out (by
          rintro (h | h)
          · exact HZ.out h
          · change (R.cli (k + 1)).ending = true at h
            rw [eE] at h
            cases h))
        clear eE
        go_enter Tryz.func18, Tryz.ntmps18
        go_wp2_with fail
        refine HCL.out.mono ?_
        rintro e w2 ⟨rfl, rfl⟩
        go_wp2_with fail
        refine HN0.out.mono ?_
        rintro e w4 ⟨A, kk, cc, rfl, hd⟩
        have HD := Lib.hid hd
        clear hd
        go_wp2_with fail
        go_ret2
        rw [HY.out]
        exact ⟨A, kk, cc, rfl, HD.out⟩
  · have hcl := client_out h.rel n (by
      unfold RelP.isIn at hin
      omega)
    have HCL := Lib.hid hcl
    have HR := Lib.hid h.rel
    have HY : Hid (R.leave n = ((R, []), 200)) := Lib.hid (by
      unfold RelP.leave
      rw [if_pos hin])
    clear h hin hcl
    go_enter Tryz.func18, Tryz.ntmps18
    go_wp2_with fail
    refine HCL.out.mono ?_
    rintro e w2 ⟨rfl, rfl⟩
    go_wp2_with fail
    go_ret2
    rw [HY.out]
    exact ⟨none, 0, 0, rfl, done_none HR.out (Mods.refl _ _)⟩
end
end Go.Proofs.YtlgoeipgmjcboaaGreatDoor
