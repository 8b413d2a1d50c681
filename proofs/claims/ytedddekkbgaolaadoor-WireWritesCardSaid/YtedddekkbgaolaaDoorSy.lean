/- The walk of WireStays. -/
import Derived.Test.YtedddekkbgaolaaDoorWk
import Derived.Test.YtedddekkbgaolaaDoorMu
import Derived.Test.YtedddekkbgaolaaDoorWg
namespace Go.Proofs.YtedddekkbgaolaaDoor
open Go.RowKit Me

/-- The two writers, the Book, a reader. -/
def W4 (a c b r : Nat) (rv : Value) (S V : WSt) (B : List (List UInt8)) (R : RSt) : Pc := (W3 a c b nilV nilV nilV nilV S V B).star (RdP r R rv)
theorem bk_new {w : World} {b : Nat} (h : w.heap[b]? = some (.cells #[nilV, nilV, nilV, nilV, nilV, nilV] 45 (0, 0))) : (BkN b nilV nilV nilV nilV []).A w [b] :=
  ⟨[], rfl, nilV, nilV, [b], [], ⟨h, rfl⟩, ⟨[], [], ⟨World.ownsRow_nil _ _ _ _, rfl⟩, ⟨[], [], ⟨World.ownsRow_nil _ _ _ _, rfl⟩, rfl, by simp, rfl⟩, by simp, rfl⟩, by simp, rfl⟩
theorem ent_w4 (p q k r : Pc) : Pc.Ent (k.star (r.star (q.star (p.star Pc.emp)))) ((p.star (q.star k)).star r) := by
  refine (Pc.Ent.refl k).mono ((Pc.Ent.refl r).mono ((Pc.Ent.refl q).mono (Pc.Ent.left p Pc.emp))) |>.trans ?_
  refine ((Pc.Ent.refl k).mono (Pc.Ent.comm r _)).trans ((Pc.Ent.assoc' _ _ _).trans ((?_ : Pc.Ent _ _).mono (Pc.Ent.refl r)))
  exact (Pc.Ent.comm k _).trans (((Pc.Ent.comm q p).mono (Pc.Ent.refl k)).trans (Pc.Ent.assoc p q k))
/-- A step of writes, with a reader beside. -/
theorem W4.step {w0 w : World} {a c b r : Nat} {rv : Value} {S V : WSt} {B : List (List UInt8)} {R : RSt} (h : Post (W4 a c b r rv S V B R) w0 [] w) (hT : Lib.Utf8Tabs 0 1 w0) (hB : B.length ≤ 90000000) (o : OpP) {vb : Value} (ho : o.Fits) (hb : o.b.length ≤ 33554432) (hs : o.s.size ≤ 33554432) (hr : Rd w0 vb (o.b.map byteV)) :
    Calls Tryd.prog 25 #[.pointer (some ⟨a, 0, none⟩), .pointer (some ⟨c, 0, none⟩), opV o vb, .pointer (some ⟨b, 0, none⟩)] w fun e w' => ∃ (res : Bool) (S' V' : WSt), WrOk o S V S' V' res ∧ e = .returned (.bool res) ∧ Post (W4 a c b r rv S' V' (B ++ S.outs o) R) w0 [] w' := by
  refine (Post.calln (Q := fun q _ _ e _ => ∃ (res : Bool) (S' V' : WSt), q = W3 a c b nilV nilV nilV nilV S' V' (B ++ S.outs o) ∧ WrOk o S V S' V' res ∧ e = .returned (.bool res)) h fun F1 hF hm => ?_).mono ?_
  · refine (writes_any hF hB o ⟨ho.n, ho.k, by omega, by omega, fun w' h' => hr.mods (hm w' h').mods (by simp), fun w' h' => tabs_mods (hm w' h').mods hT⟩).mono ?_
    rintro e w' ⟨res, S', V', hw, he, hp⟩
    exact ⟨_, ⟨res, S', V', rfl, hw, he⟩, hp⟩
  · rintro e w' ⟨q, F1, ⟨res, S', V', rfl, hw, he⟩, hp⟩
    exact ⟨res, S', V', hw, he, hp⟩
theorem outs_len (S : WSt) (o : OpP) : (S.outs o).length ≤ 2 := by
  unfold WSt.outs
  split <;> simp
theorem full_put {S : WSt} {p : Nat} (h : S.bytes.length ≤ p) (hl : S.limit = p) : (S.put (List.replicate (p - S.bytes.length + 1) 7)).err ≠ 0 ∧ (S.put (List.replicate (p - S.bytes.length + 1) 7)).bytes = S.bytes ∧
    (S.put (List.replicate (p - S.bytes.length + 1) 7)).done = ([], (S.put (List.replicate (p - S.bytes.length + 1) 7)).err) ∧ (S.put (List.replicate (p - S.bytes.length + 1) 7)).limit = p := by
  by_cases he : S.err = 0
  · rw [WSt.put_full _ he (by simp; omega)]
    exact ⟨by simp, rfl, by unfold WSt.done; rw [if_pos (by simp)], hl⟩
  · rw [WSt.put_err _ he]
    exact ⟨he, rfl, by unfold WSt.done; rw [if_pos he], hl⟩
theorem raw_short {q : Nat} {R0 : RSt} (h : RSt.new (List.replicate q 1) = R0) : R0.raw ((q : Int) + 1) = ([], R0.wrong 10 0) := by
  subst h
  unfold RSt.raw
  rw [if_neg (by simp [RSt.new]), if_neg (by omega), if_pos (by simp [RSt.new, RSt.rest]; omega)]
theorem wrong_new {q : Nat} {R0 : RSt} (h : RSt.new (List.replicate q 1) = R0) : (R0.wrong 10 0).err = 10 ∧ (R0.wrong 10 0).spot = 0 ∧ (R0.wrong 10 0).left = 0 ∧ (R0.wrong 10 0).base + (R0.wrong 10 0).place = 0 := by
  subst h
  have e : (RSt.new (List.replicate q 1)).wrong 10 0 = ⟨List.replicate q 1, 0, 0, 10, 0⟩ := by
    unfold RSt.wrong
    rw [if_pos (by simp [RSt.new])]
    rfl
  rw [e]
  exact ⟨rfl, rfl, by unfold RSt.left; rw [if_pos (by simp)], rfl⟩
theorem Ops.range {w : World} {g off n c : Nat} {L : List (OpP × Value)} (h : Ops w (.slice (some ⟨g, off, none⟩) n c) L) (i : Nat) (p : OpP × Value) (hp : L[i]? = some p) : w.rangeAt g (off + i * 6) (opC p.1 p.2) := by
  obtain ⟨g', off', e, h'⟩ := h.at i p hp
  cases e
  exact h'
theorem six_cells {w : World} {g p : Nat} {o : OpP} {vb : Value} (h : w.rangeAt g p (opC o vb)) : w.cell? ⟨g, p, none⟩ = some (.int .i64 o.who) ∧ w.cell? ⟨g, p + 1, none⟩ = some (.int .i64 o.kind) ∧ w.cell? ⟨g, p + 2, none⟩ = some (.int .u64 (o.n : Int)) ∧
    w.cell? ⟨g, p + 3, none⟩ = some (.int .i64 o.k) ∧ w.cell? ⟨g, p + 4, none⟩ = some vb ∧ w.cell? ⟨g, p + 5, none⟩ = some (.string o.s) :=
  ⟨h 0 _ rfl, h 1 _ rfl, h 2 _ rfl, h 3 _ rfl, h 4 _ rfl, h 5 _ rfl⟩
def RelS1 (w0 : World) (a c b r : Nat) (rv : Value) (R : RSt) (n p : Nat) (i : Value) (wr : World) : Prop :=
  ∃ (k : Nat) (S : WSt) (B : List (List UInt8)), k ≤ n ∧ i = .int .i64 k ∧ S.limit = p ∧ B.length ≤ 2 * k ∧ Post (W4 a c b r rv S S B R) w0 [] wr
def RelS2 (w0 : World) (a c b r : Nat) (rv : Value) (R : RSt) (n m : Nat) (S : WSt) (i : Value) (wr : World) : Prop :=
  ∃ (k : Nat) (V : WSt) (B : List (List UInt8)), k ≤ n ∧ i = .int .i64 k ∧ B.length ≤ 2 * (m + k) ∧ Post (W4 a c b r rv S V B R) w0 [] wr
set_option maxRecDepth 100000 in
set_option maxHeartbeats 2000000 in
theorem stays_any {w : World} (hT : Lib.Utf8Tabs 0 1 w) (z : Int) (hz : -9223372036854775808 ≤ z ∧ z ≤ 9223372036854775807) (L1 L2 : List (OpP × Value)) {v1 v2 : Value} (h1 : Ops w v1 L1) (h2 : Ops w v2 L2) (i1 : ∀ p ∈ L1, OpIn w p) (i2 : ∀ p ∈ L2, OpIn w p)
    (l1 : L1.length ≤ 70000000000000) (l2 : L2.length ≤ 70000000000000) :
    Calls Tryd.prog 10 #[.int .i64 z, v1, v2] w fun e w' => e = .returned (.bool true) ∧ Mods [] w w' := by
  have HT := Lib.hid hT
  have HL1 := Lib.hid h1
  have HL2 := Lib.hid h2
  have HI1 := Lib.hid i1
  have HI2 := Lib.hid i2
  have HM1 := Lib.hid (much_any L1 h1 i1 l1)
  obtain ⟨A1, c1, rfl, -⟩ := h1
  obtain ⟨A2, c2, rfl, -⟩ := h2
  clear hT i1 i2
  go_enter Tryd.func10, Tryd.ntmps10
  go_wp2_with fail
  refine HM1.out.mono ?_; rintro e w1 ⟨m1, hm1, hb1, rfl, hw1⟩
  have HS1 := Lib.hid hm1
  have HW1 := Lib.hid hw1
  clear hm1 hw1
  go_wp2_with fail
  refine (much_any L2 (HL2.out.mods HW1.out) (fun p hp => (HI2.out p hp).mods HW1.out) l2).mono ?_; rintro e w2 ⟨m2, hm2, hb2, rfl, hw2⟩
  have HS2 := Lib.hid hm2
  have HW2 := Lib.hid (HW1.out.trans hw2 (by simp))
  clear hm2 hw2
  by_cases hroom : m1 + m2 ≤ 33554432
  · have hs1 := HS1.out (by omega)
    have hs2 := HS2.out (by omega)
    have hl1 := hs1.1
    have hl2 := hs2.1
    have HN1 := Lib.hid hs1.2
    have HN2 := Lib.hid hs2.2
    clear hs1 hs2 HS1 HS2 HM1
    go_wp2_with fail
    refine (pick_any z 100000 _ hz.1 hz.2 (by omega) (by omega)).mono ?_; rintro e w3 ⟨rfl, rfl⟩
    have hp : pickN z 100000 < 100000 := by unfold pickN; exact Nat.mod_lt _ (by omega)
    generalize pickN z 100000 = p at *
    go_wp2_with fail
    refine (newWriter_ok p _ (by omega)).mono ?_; rintro e w4 ⟨rfl, hi4, hw4⟩
    have hP4 : Post ((Wr 122 w2.heap.size (WSt.new p)).star Pc.emp) w [] w4 := (show Post Pc.emp w [] w2 from ⟨[], rfl, HW2.out, by simp⟩).add hw4 ⟨_, _, hi4, rfl⟩ (by simp [foot, Value.ownBlock])
    have HP4 := Lib.hid hP4
    clear hi4 hw4 hP4
    generalize w2.heap.size = a at *
    go_wp2_with fail
    refine (vnew_ok p _ (by omega)).mono ?_; rintro e w5 ⟨rfl, hi5, hw5⟩
    have HP5 := Lib.hid (HP4.out.add hw5 (q := Wr 124 w4.heap.size (WSt.new p)) ⟨_, _, hi5, rfl⟩ (by simp [foot, Value.ownBlock]))
    clear hi5 hw5
    generalize w4.heap.size = c at *
    go_wp2_with fail
    rw [show (p : Int) % 7 = ((p % 7 : Nat) : Int) by omega]
    have hq7 : p % 7 < 7 := Nat.mod_lt _ (by omega)
    have HQ7 := Lib.hid (show (p : Int) % 7 = ((p % 7 : Nat) : Int) by omega)
    generalize p % 7 = q at *
    refine (fill_any (B := w5.heap.size) (Nat.le_refl _) (q : Int) (by omega) (by omega) 1).mono ?_; rintro e w6 ⟨v6, rfl, ho6, hm6, -⟩
    have hm6' : Mods [] w5 w6 := by simpa [Value.ownBlock] using hm6
    rw [show ((q : Int).toNat) = q by omega] at ho6
    have HP6 := Lib.hid (HP5.out.still hm6')
    have HR6 := Lib.hid (Rd.of_own ho6)
    obtain ⟨A6, c6, rfl⟩ := own_ctor ho6
    rw [List.length_replicate] at HR6
    clear ho6 hm6 hm6'
    go_wp2_with fail
    refine (newReader_any (List.replicate q 1) HR6.out (by simp; omega)).mono ?_; rintro e w7 ⟨r, rv, rfl, hi7, ho7, hr7, hm7⟩
    have HP7 := Lib.hid (HP6.out.add hm7 (q := RdP r (RSt.new (List.replicate q 1)) rv) ⟨hi7, fun k hk => (ho7.lt k hk).2, rfl⟩ (fun k hk => by
      rcases List.mem_cons.1 hk with rfl | hk
      · exact hr7
      · exact (ho7.lt k (by simpa using hk)).1))
    clear hi7 ho7 hr7 hm7
    generalize hR0 : RSt.new (List.replicate q 1) = R0 at *
    have HR0 := Lib.hid hR0
    clear hR0
    go_wp2_with fail
    have hwb : Hid (∀ w8 : World, Mods [] w7 w8 → True) := Lib.hid (fun _ _ => trivial)
    clear hwb
    have HP8 : Hid (Post (W4 a c w7.heap.size r rv (WSt.new p) (WSt.new p) [] R0) w [] (w7.alloc (.cells #[nilV, nilV, nilV, nilV, nilV, nilV] 45))) :=
      Lib.hid ((HP7.out.add ((Mods.refl [] w7).alloc (.cells #[nilV, nilV, nilV, nilV, nilV, nilV] 45)) (bk_new (heap_alloc_new w7 _)) (by simp)).ent (ent_w4 _ _ _ _))
    go_wp2_with fail
    unfold nilV at HP8
    generalize w7.alloc (.cells #[.slice none 0 0, .slice none 0 0, .slice none 0 0, .slice none 0 0, .slice none 0 0, .slice none 0 0] 45) = w8 at *
    generalize w7.heap.size = b at *
    go_loopw [13] (fun i wr => RelS1 w a c b r rv R0 L1.length p i wr) (fun i _ => L1.length - (intOf i).toNat)
    case atStart => exact ⟨0, WSt.new p, [], by omega, rfl, rfl, by simp, HP8.out⟩
    case round =>
      obtain ⟨k, S, B, hk, rfl, hlim, hB, hp1⟩ := hrel
      have HP := Lib.hid hp1
      have HLIM := Lib.hid hlim
      clear hp1 HP8 HP7 HP6 HP5 HP4
      rcases Nat.lt_or_ge k L1.length with hlt | hge
      · obtain ⟨⟨o, vo⟩, hpp⟩ : ∃ x, L1[k]? = some x := ⟨_, List.getElem?_eq_getElem hlt⟩
        obtain ⟨g, off, rfl, hrg⟩ := (HL1.out.mods HP.out.mods).at k (o, vo) hpp
        have hmem := List.mem_of_getElem? hpp
        have hin := HI1.out (o, vo) hmem
        obtain ⟨Ab, cb, hvo, -⟩ := rd_slice hin.2
        simp only at hvo
        subst hvo
        have HIN := Lib.hid hin
        have d0 : wr.cell? ⟨g, off + k * 6, none⟩ = some (.int .i64 o.who) := hrg 0 _ rfl
        have d1 : wr.cell? ⟨g, off + k * 6 + 1, none⟩ = some (.int .i64 o.kind) := hrg 1 _ rfl
        have d2 : wr.cell? ⟨g, off + k * 6 + 2, none⟩ = some (.int .u64 (o.n : Int)) := hrg 2 _ rfl
        have d3 : wr.cell? ⟨g, off + k * 6 + 3, none⟩ = some (.int .i64 o.k) := hrg 3 _ rfl
        have d4 : wr.cell? ⟨g, off + k * 6 + 4, none⟩ = some (.slice Ab o.b.length cb) := hrg 4 _ rfl
        have d5 : wr.cell? ⟨g, off + k * 6 + 5, none⟩ = some (.string o.s) := hrg 5 _ rfl
        clear hin
        have HNN := Lib.hid (HN1.out (o, .slice Ab o.b.length cb) hmem)
        clear hpp hrg hmem hlim
        go_wp2_with fail
        refine (W4.step HP.out HT.out (by omega) o HIN.out.1 HNN.out.1 HNN.out.2 HIN.out.2).mono ?_; rintro e w9 ⟨res, S', V', hwr, rfl, hp9⟩
        obtain ⟨rfl, rfl, rfl⟩ := hwr.both rfl
        have HR : Hid (RelS1 w a c b r rv R0 L1.length p (.int .i64 ((k : Int) + 1)) w9) := Lib.hid ⟨k + 1, _, _, by omega, rfl, hwr.limit.trans HLIM.out, by have := outs_len S o; rw [List.length_append]; omega, hp9⟩
        clear hwr hp9
        go_wp2_with fail
        exact ⟨HR.out, by simp only [intOf]; omega⟩
      · obtain rfl : k = L1.length := by omega
        obtain ⟨vb, vo, hiw⟩ := (HP.out.ent ((Pc.Ent.assoc _ _ _))).isW
        have hSl : S.bytes.length ≤ p := by have := hiw.wf.bytes; omega
        have HLE := Lib.hid (len_any hiw)
        clear hiw hlim
        have hlim2 := HLIM.out
        go_wp2_with fail
        refine HLE.out.mono ?_; rintro e w9 ⟨rfl, rfl⟩
        go_wp2_with fail
        have hS1 := full_put hSl hlim2
        rw [show ((p : Int) - (S.bytes.length : Int) + 1) = ((p - S.bytes.length + 1 : Nat) : Int) by omega]
        have hnn : p - S.bytes.length + 1 ≤ 100000 := by omega
        generalize p - S.bytes.length + 1 = nn at *
        refine (fill_any (B := wr.heap.size) (Nat.le_refl _) (nn : Int) (by omega) (by omega) 7).mono ?_; rintro e w10 ⟨v10, rfl, ho10, hm10, -⟩
        have hm10' : Mods [] wr w10 := by simpa [Value.ownBlock] using hm10
        rw [show ((nn : Int).toNat) = nn by omega] at ho10
        have HP10 := Lib.hid ((HP.out.add (q := rowOf v10 (List.replicate nn 7)) hm10' ⟨ownsRow_base ho10 (Nat.zero_le _), rfl⟩ (fun k hk => (ho10.lt k (by simpa using hk)).1)).ent (((Pc.Ent.refl _).mono (Pc.Ent.assoc _ _ _)).trans (Pc.Ent.swap _ _ _)))
        have HR10 := Lib.hid (Rd.of_own ho10)
        obtain ⟨A10, c10, rfl⟩ := own_ctor ho10
        rw [List.length_replicate] at HR10
        clear ho10 hm10 hm10'
        go_wp2_with fail
        refine (HP10.out.wr fun vb vo hi => raw_any hi (List.replicate nn 7) HR10.out).mono ?_; rintro e w11 ⟨rfl, hp11⟩
        obtain ⟨he1, hb1', hd1, hlim1⟩ := hS1
        generalize S.put (List.replicate nn 7) = S1 at *
        have HP11 : Hid (Post (W4 a c b r rv S1 S B R0) w [] w11) := Lib.hid (hp11.ent (((Pc.Ent.refl _).mono (Pc.Ent.right _ _)).trans (Pc.Ent.assoc' _ _ _)))
        have HD1 := Lib.hid hd1
        have HE1 := Lib.hid he1
        have hbl1 : S1.bytes.length ≤ p := by rw [hb1']; exact hSl
        obtain ⟨vb2, vo2, hiw2⟩ := (HP11.out.ent ((Pc.Ent.assoc _ _ _))).isW
        have HLE2 := Lib.hid (len_any hiw2)
        have hdd := done_any hiw2
        rw [hd1] at hdd
        have HDD := Lib.hid hdd
        have hne1 : ((S1.err : Int) == 0) = false := by rw [beq_eq_false_iff_ne]; omega
        clear hp11 HP10 HP hiw2 hdd hd1 he1 hb1'
        go_wp2_with fail
        refine HLE2.out.mono ?_; rintro e w12 ⟨rfl, rfl⟩
        go_wp2_with fail
        refine HDD.out.mono ?_; rintro e w13 ⟨v13, rfl, ho13, hm13⟩
        have HP13 := Lib.hid ((HP11.out.still hm13).ent (Pc.Ent.comm _ _))
        obtain ⟨A13, c13, rfl⟩ := own_ctor ho13
        clear ho13 hm13
        simp only [List.length_nil]
        have hnl : ¬ ((p : Int) < (S1.bytes.length : Int)) := by omega
        have hnl2 : ¬ (p < S1.bytes.length) := by omega
        go_wp2_with fail
        rw [HQ7.out]
        refine (HP13.out.calle (R := fun x : Value => ∃ A c, x = .slice A 0 c) (val := id) (q := RdP r (R0.wrong 10 0) rv) fun F1 hF => ?_).mono ?_
        · have hraw : R0.raw ((q : Int) + 1) = ([], R0.wrong 10 0) := raw_short HR0.out
          have := rraw_any hF.1 ((q : Int) + 1) (by omega) (by omega)
          rw [hraw] at this
          refine this.mono ?_
          rintro e w' ⟨v, rfl, hown, hr⟩
          obtain ⟨A, c, rfl⟩ := own_ctor hown
          exact ⟨_, ⟨A, c, rfl⟩, rfl, RdP.turn hF hr⟩
        rintro e w14 ⟨x14, ⟨A14, c14, rfl⟩, rfl, hp14⟩
        have HP14 : Hid (Post (W4 a c b r rv S1 S B (R0.wrong 10 0)) w [] w14) := Lib.hid (hp14.ent (Pc.Ent.comm _ _))
        obtain ⟨hR1e, hR1s, hR1l, hR1a⟩ := wrong_new HR0.out
        generalize R0.wrong 10 0 = R1 at *
        have HR1E := Lib.hid hR1e
        have HR1S := Lib.hid hR1s
        have HR1L := Lib.hid hR1l
        have HR1A := Lib.hid hR1a
        clear hp14 HP13 HP11 hR1e hR1s hR1l hR1a
        simp only [id]
        go_wp2_with fail
        go_loopw [19] (fun i wr => RelS2 w a c b r rv R1 L2.length L1.length S1 i wr) (fun i _ => L2.length - (intOf i).toNat)
        case atStart => exact ⟨0, S, B, by omega, rfl, by omega, HP14.out⟩
        case round =>
          obtain ⟨k, V, B2, hk2, rfl, hB2, hp15⟩ := hrel
          have HP15 := Lib.hid hp15
          clear hp15 HP14
          rcases Nat.lt_or_ge k L2.length with hlt2 | hge2
          · obtain ⟨⟨o, vo⟩, hpp⟩ : ∃ x, L2[k]? = some x := ⟨_, List.getElem?_eq_getElem hlt2⟩
            obtain ⟨g, off, rfl, hrg⟩ := (HL2.out.mods HP15.out.mods).at k (o, vo) hpp
            have hmem := List.mem_of_getElem? hpp
            have hin := HI2.out (o, vo) hmem
            obtain ⟨Ab, cb, hvo, -⟩ := rd_slice hin.2
            simp only at hvo
            subst hvo
            have HIN := Lib.hid hin
            have HNN := Lib.hid (HN2.out (o, .slice Ab o.b.length cb) hmem)
            have HRG := Lib.hid hrg
            obtain ⟨d0, d1, d2, d3, d4, d5⟩ := six_cells hrg
            have HAT := Lib.hid (fun (w' : World) (hm : Mods [] w w') => (HL2.out.mods hm).range k (o, .slice Ab o.b.length cb) hpp)
            clear hin hpp hrg hmem
            go_wp2_with fail
            refine (W4.step HP15.out HT.out (by omega) o HIN.out.1 HNN.out.1 HNN.out.2 HIN.out.2).mono ?_; rintro e w16 ⟨res, S', V', hwr, rfl, hp16⟩
            obtain rfl := hwr.err HE1.out
            have HOL := Lib.hid (outs_len S' o)
            have HP16 := Lib.hid (hp16.ent (Pc.Ent.comm _ _))
            clear d0 d1 d2 d3 d4 d5
            obtain ⟨d0, d1, d2, d3, d4, d5⟩ := six_cells (HAT.out _ hp16.mods)
            clear hp16 hwr
            go_wp2_with fail
            refine (HP16.out.callm (x := .tuple #[]) fun F1 hF hm => wrong_err hF (by rw [HR1E.out]; simp) o HIN.out.1.k (fun w' h' => tabs_mods (hm w' h').mods HT.out)).mono ?_; rintro e w17 ⟨rfl, hp17⟩
            have HR : Hid (RelS2 w a c b r rv R1 L2.length L1.length S' (.int .i64 ((k : Int) + 1)) w17) := Lib.hid ⟨k + 1, _, _, by omega, rfl, by have := HOL.out; rw [List.length_append]; omega, hp17.ent (Pc.Ent.comm _ _)⟩
            clear hp17
            go_wp2_with fail
            exact ⟨HR.out, by simp only [intOf]; omega⟩
          · obtain rfl : k = L2.length := by omega
            obtain ⟨vb3, vo3, hiw3⟩ := (HP15.out.ent ((Pc.Ent.assoc _ _ _))).isW
            have hdd3 := done_any hiw3
            rw [HD1.out] at hdd3
            have HDD3 := Lib.hid hdd3
            clear hiw3 hdd3
            go_wp2_with fail
            refine HDD3.out.mono ?_; rintro e w18 ⟨v18, rfl, ho18, hm18⟩
            have hp18 := HP15.out.still hm18
            have HP18 := Lib.hid hp18
            obtain ⟨F9, ⟨hir, -, -⟩⟩ := (hp18.ent (Pc.Ent.comm _ _)).front
            have HER := Lib.hid (err_any hir)
            obtain ⟨A18, c18, rfl⟩ := own_ctor ho18
            clear ho18 hm18 hp18 hir
            simp only [List.length_nil]
            go_wp2_with fail
            refine HER.out.mono ?_; rintro e w19 ⟨rfl, k19, rfl⟩
            rw [HR1E.out, HR1S.out]
            have hp19 := HP18.out.still ((Mods.refl [] w18).drewN k19)
            have HP19 := Lib.hid hp19
            obtain ⟨vb4, vo4, hiw4⟩ := (hp19.ent ((Pc.Ent.assoc _ _ _))).isW
            have HLE4 := Lib.hid (len_any hiw4)
            obtain ⟨F10, ⟨hir, -, -⟩⟩ := (hp19.ent (Pc.Ent.comm _ _)).front
            have HAR := Lib.hid (at_any hir)
            clear hp19 hiw4 hir
            generalize w18.drewN k19 = w20 at *
            go_wp2_with fail
            refine HLE4.out.mono ?_; rintro e w21 ⟨rfl, rfl⟩
            go_wp2_with fail
            refine HAR.out.mono ?_; rintro e w22 ⟨rfl, k22, rfl⟩
            rw [HR1A.out]
            have hp22 := HP19.out.still ((Mods.refl [] w20).drewN k22)
            have HP22 := Lib.hid hp22
            obtain ⟨F11, ⟨hir, -, -⟩⟩ := (hp22.ent (Pc.Ent.comm _ _)).front
            have HLR := Lib.hid (left_any hir)
            clear hp22 hir
            generalize w20.drewN k22 = w23 at *
            go_wp2_with fail
            refine HLR.out.mono ?_; rintro e w24 ⟨rfl, k24, rfl⟩
            rw [HR1L.out]
            have HP24 := Lib.hid ((HP22.out.still ((Mods.refl [] w23).drewN k24)).mods)
            generalize w23.drewN k24 = w25 at *
            go_wp2_with fail
            go_ret
            exact ⟨rfl, HP24.out⟩
  · go_wp2_with fail
    go_ret
    exact ⟨rfl, HW2.out⟩
end Go.Proofs.YtedddekkbgaolaaDoor
