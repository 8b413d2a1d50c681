/- The step each. -/
import Derived.Test.YtnpokdbpmnkbjaaGreatDoorCc
import Derived.Test.YtnpokdbpmnkbjaaGreatDoorQi
import Derived.Sort.CutIn
import Derived.Test.YtnpokdbpmnkbjaaGreatDoorOw
namespace Go.Proofs.YtnpokdbpmnkbjaaGreatDoor
open Go.RowKit Me

attribute [local go_sem] Oper.semAt_some
theorem rows_apart {w : World} {b1 b2 : Nat} {e1 e2 : TypeId} {s1 s2 n1 n2 : Nat} {v1 v2 : Value} {x1 x2 : List Value} (h1 : w.ownsRow b1 e1 s1 v1 n1 x1) (h2 : w.ownsRow b2 e2 s2 v2 n2 x2) (hne : e1 ≠ e2) :
    ∀ k, v1.ownBlock = some k → v2.ownBlock ≠ some k := by
  intro k hk hk2
  obtain ⟨-, ⟨rfl, -⟩ | ⟨g1, c1, u1, rfl, -, g3, -⟩⟩ := h1
  · simp [Value.ownBlock] at hk
  obtain ⟨-, ⟨rfl, -⟩ | ⟨g2, c2, u2, rfl, -, k3, -⟩⟩ := h2
  · simp [Value.ownBlock] at hk2
  simp only [Value.ownBlock, Option.some.injEq] at hk hk2
  subst hk
  subst hk2
  rw [g3] at k3
  simp at k3
  exact hne k3.2
/-- What stands by while the ranges go on. -/
def EaS (bm br ba bw bs bx : Nat) (most : Int) (va vl v : Value) (L : List (Nat × StatP)) (l : List UInt8) : Pc :=
  (Pc.blk bm (.cells #[.int .i64 most] 3)).star ((Pc.blk br (.cells #[.bool false] 4)).star ((Pc.blk ba (.cells #[va] 62)).star ((Pc.row 3 1 va L.length (L.map placeV)).star ((Pc.blk bw (.cells #[vl] 38)).star ((Pc.row 35 13 vl L.length (flatS L)).star
    ((Pc.blk bs (.cells #[.func (.func 79) #[] #[.pointer (some ⟨bx, 0, none⟩)]] 66)).star (EachX bx v l)))))))
theorem ea_cells {p : Pc} {w0 w : World} {F : List Nat} {bm br ba bw bs bx : Nat} {most : Int} {va vl v : Value} {L : List (Nat × StatP)} {l : List UInt8} (h : Post p w0 F w) (e : Pc.Ent p (EaS bm br ba bw bs bx most va vl v L l)) :
    w.cell? ⟨bm, 0, none⟩ = some (.int .i64 most) ∧ w.cell? ⟨br, 0, none⟩ = some (.bool false) ∧ w.frozen? ⟨br, 0, none⟩ = false ∧ w.cell? ⟨ba, 0, none⟩ = some va ∧ w.cell? ⟨bw, 0, none⟩ = some vl ∧
    w.cell? ⟨bs, 0, none⟩ = some (.func (.func 79) #[] #[.pointer (some ⟨bx, 0, none⟩)]) ∧ w.ownsRow 0 3 1 va L.length (L.map placeV) ∧ w.ownsRow 0 35 13 vl L.length (flatS L) :=
  ⟨(blk_one (h.blkOf (e.trans (Pc.Ent.left _ _)))).1, (blk_one (h.blkOf (e.trans ((Pc.Ent.right _ _).trans (Pc.Ent.left _ _))))).1, (blk_one (h.blkOf (e.trans ((Pc.Ent.right _ _).trans (Pc.Ent.left _ _))))).2, (blk_one (h.blkOf (e.trans ((Pc.Ent.right _ _).trans ((Pc.Ent.right _ _).trans (Pc.Ent.left _ _)))))).1, (blk_one (h.blkOf (e.trans ((Pc.Ent.right _ _).trans ((Pc.Ent.right _ _).trans ((Pc.Ent.right _ _).trans ((Pc.Ent.right _ _).trans (Pc.Ent.left _ _)))))))).1, (blk_one (h.blkOf (e.trans ((Pc.Ent.right _ _).trans ((Pc.Ent.right _ _).trans ((Pc.Ent.right _ _).trans ((Pc.Ent.right _ _).trans ((Pc.Ent.right _ _).trans ((Pc.Ent.right _ _).trans (Pc.Ent.left _ _)))))))))).1, h.rowAt (e.trans ((Pc.Ent.right _ _).trans ((Pc.Ent.right _ _).trans ((Pc.Ent.right _ _).trans (Pc.Ent.left _ _))))), h.rowAt (e.trans ((Pc.Ent.right _ _).trans ((Pc.Ent.right _ _).trans ((Pc.Ent.right _ _).trans ((Pc.Ent.right _ _).trans ((Pc.Ent.right _ _).trans (Pc.Ent.left _ _)))))))⟩
def EaK (bn bm br ba bw bs bx : Nat) (most : Int) (va vl v : Value) (L : List (Nat × StatP)) (l : List UInt8) (K0 : Pc) (k : Nat) : Pc := (Pc.blk bn (.cells #[.int .i64 (k : Int)] 3)).star ((EaS bm br ba bw bs bx most va vl v L l).star K0)
theorem Me.Post.rows2 {p : Pc} {w0 w w' : World} {F : List Nat} {va vl : Value} {L : List (Nat × StatP)} (h : Post p w0 F w) (hm : Mods [] w w') (ha : w'.ownsRow w.heap.size 3 1 va L.length (L.map placeV)) (hl : w'.ownsRow w.heap.size 35 13 vl L.length (flatS L)) :
    Post (((Pc.row 3 1 va L.length (L.map placeV)).star (Pc.row 35 13 vl L.length (flatS L))).star p) w0 F w' := by
  refine h.add (q := (Pc.row 3 1 va L.length (L.map placeV)).star (Pc.row 35 13 vl L.length (flatS L))) hm ⟨_, _, ⟨ownsRow_base ha (Nat.zero_le _), rfl⟩, ⟨ownsRow_base hl (Nat.zero_le _), rfl⟩, fun k hk hk2 => ?_, rfl⟩ (fun k hk => ?_)
  · exact rows_apart ha hl (by decide) k (by simpa using hk) (by simpa using hk2)
  · rcases List.mem_append.1 hk with hk | hk
    · exact (ha.lt k (by simpa using hk)).1
    · exact (hl.lt k (by simpa using hk)).1
theorem Me.Pc.Ent.whenI {φ : Prop} {p : Pc} (h : φ) : Pc.Ent p (Pc.when φ p) := fun _ F hp => ⟨F, ⟨h, hp⟩, fun _ hk => hk⟩
theorem ent_rd (b7 bn Y RR : Pc) : Pc.Ent ((b7.star (bn.star Y)).star RR) (bn.star (Y.star RR)) := ((Pc.Ent.right _ _).mono (Pc.Ent.refl _)).trans (Pc.Ent.assoc _ _ _)
theorem EaK_next {bn bm br ba bw bs bx : Nat} {most : Int} {va vl v : Value} {L : List (Nat × StatP)} {l : List UInt8} {K0 RR : Pc} {k : Nat} {w0 w : World} {F : List Nat}
    (h : Post ((Pc.blk bn (.cells #[.int .i64 ((k : Int) + 1)] 3)).star (((EaS bm br ba bw bs bx most va vl v L l).star K0).star RR)) w0 F w) : Post ((EaK bn bm br ba bw bs bx most va vl v L l K0 (k + 1)).star RR) w0 F w := by
  unfold EaK
  rw [Int.natCast_add]
  exact h.ent (Pc.Ent.assoc' _ _ _)
theorem EaK_zero {bn bm br ba bw bs bx : Nat} {most : Int} {va vl v : Value} {L : List (Nat × StatP)} {l : List UInt8} {K0 RR : Pc} {k : Nat} {w0 w : World} {F : List Nat}
    (h : Post ((EaK bn bm br ba bw bs bx most va vl v L l K0 k).star RR) w0 F w) : Post ((EaK bn bm br ba bw bs bx most va vl v L l K0 0).star RR) w0 F (w.setCell ⟨bn, 0, none⟩ (.int .i64 0)) :=
  ((h.ent (Pc.Ent.assoc _ _ _)).step (blk_turn (i := 0) (.int .i64 0))).ent (Pc.Ent.assoc' _ _ _)
theorem Me.Post.whenE' {φ : Prop} {p : Pc} {w0 w : World} {F : List Nat} (h : Post (Pc.when φ p) w0 F w) : φ ∧ Post p w0 F w := by
  obtain ⟨F1, ⟨h1, h2⟩, h5, h6⟩ := h
  exact ⟨h1, _, h2, h5, h6⟩
theorem Me.Post.whenE {φ : Prop} {p r : Pc} {w0 w : World} {F : List Nat} (h : Post ((Pc.when φ p).star r) w0 F w) : φ ∧ Post (p.star r) w0 F w := by
  obtain ⟨F12, ⟨F1, F2, ⟨h1, h2⟩, h3, h4, rfl⟩, h5, h6⟩ := h
  exact ⟨h1, _, ⟨F1, F2, h2, h3, h4, rfl⟩, h5, h6⟩
theorem ent_rd2 (b7 bn Y D RR : Pc) : Pc.Ent ((b7.star ((bn.star Y).star D)).star RR) (bn.star (Y.star (D.star RR))) :=
  ((Pc.Ent.right _ _).mono (Pc.Ent.refl _)).trans ((Pc.Ent.assoc _ _ _).trans (Pc.Ent.assoc _ _ _))
theorem ent_end (bn bm br Z K0 D1 D2 : Pc) : Pc.Ent (((bn.star ((bm.star (br.star Z)).star K0)).star D1).star D2) (br.star (D2.star (D1.star K0))) :=
  ((((Pc.Ent.right _ _).trans (((Pc.Ent.right _ _).trans (Pc.Ent.left _ _)).mono (Pc.Ent.refl _))).mono (Pc.Ent.refl _)).mono (Pc.Ent.refl _)).trans
    ((Pc.Ent.assoc _ _ _).trans ((Pc.Ent.assoc _ _ _).trans ((Pc.Ent.refl _).mono (Pc.perm [K0, D1, D2] [2, 1, 0] (n := 3) (by decide)))))
theorem results_cell1 {fn : Func} {p : Tmp} (h : fn.results = #[.cell p 4]) (tmps : Array Value) (w : World) {a : Nat} {x : Bool} (ht : tmps.getD p undef = .pointer (some ⟨a, 0, none⟩)) (hc : w.cell? ⟨a, 0, none⟩ = some (.bool x)) :
    (results fn tmps).run Tryz.prog w = .ok (.bool x) w := by
  have ht2 : tmps[p]?.getD undef = .pointer (some ⟨a, 0, none⟩) := by simpa using ht
  simp [results, h, ht2, hc, go_sem]
theorem rd_atV {w : World} {A : Option Addr} {m c k : Nat} {L : List (Nat × StatP)} {x : Nat × StatP} (h : Rd w (.slice A m c) (L.map placeV)) (hx : L[k]? = some x) : ∃ g off, A = some ⟨g, off, none⟩ ∧ w.cell? ⟨g, off + k, none⟩ = some (.int .i64 (x.1 : Int)) := by
  obtain ⟨A', c', e, -, -, h3⟩ := h
  rw [(Value.slice.inj e).1]
  exact h3 k (placeV x) (by rw [List.getElem?_map, hx]; rfl)
theorem ent_ea (bn M bs X bw ba ra rl br bm K : Pc) : Pc.Ent (bn.star (M.star (bs.star (X.star (bw.star (ba.star ((ra.star rl).star (br.star (bm.star K))))))))) (bn.star ((bm.star (br.star (ba.star (ra.star (bw.star (rl.star (bs.star X))))))).star K)) :=
  (Pc.Ent.refl bn).mono ((Pc.Ent.right M _).trans (((Pc.Ent.refl bs).mono ((Pc.Ent.refl X).mono ((Pc.Ent.refl bw).mono ((Pc.Ent.refl ba).mono (Pc.Ent.assoc ra rl _))))).trans
    ((Pc.perm [bs, X, bw, ba, ra, rl, br, bm, K] [8, 7, 6, 3, 4, 2, 5, 0, 1] (n := 9) (by decide)).trans (Pc.Ent.comm K _))))
theorem run_store_one (w : World) (x v : Value) (t : TypeId) (hv : v.oneCell' = true) : (store ⟨w.heap.size, 0, none⟩ v).run Tryz.prog (w.alloc (.cells #[x] t)) = .ok () (w.alloc (.cells #[v] t)) := by
  have h := heap_alloc_new w (.cells #[x] t)
  rw [run_store _ _ _ _ _ hv, cell_of_row _ _ _ _ _ _ h, frozen_of_row _ _ _ _ _ h, setCell_eq_setRow _ _ _ _ _ _ _ h]
  simp only [List.getElem?_toArray, List.getElem?_cons_zero, Bool.false_eq_true, if_false]
  rw [show #[x].setIfInBounds 0 v = #[v] from rfl, setRow_new]
theorem func_nil (w : World) (g bx : Nat) : (binOp .eql 66 (.func (.func g) #[] #[.pointer (some ⟨bx, 0, none⟩)]) .nilFunc).run Tryz.prog w = .ok (.bool false) w := by
  have h : ∀ d : Nat, (Op.equalIn (d + 1) 66 (.func (.func g) #[] #[.pointer (some ⟨bx, 0, none⟩)]) .nilFunc).run Tryz.prog w = .ok false w := fun d => by
    simp [Op.equalIn, run_underlying Tryz.underlying66]
  simp only [binOp]
  simp [Op.equal, Op.maxDepth, h 9999]
set_option maxRecDepth 100000 in
set_option maxHeartbeats 4000000 in
theorem keach_any {w0 w : World} {b n : Nat} {R : Pc} {vb vc : Value} {B C : List UInt8} (h : Post ((BkQ b n).star R) w0 [] w) (hT : Lib.Utf8Tabs 0 1 w0) (hB : ArgB w0 vb B) (hC : ArgB w0 vc C) (most : Int) :
    Calls Tryz.prog 12 #[.pointer (some ⟨b, 0, none⟩), vb, vc, .int .i64 most] w fun e w' => e = .returned (.bool true) ∧ Post ((BkQ b n).star R) w0 [] w' := by
  have hp0 := (h.alloc (.cells #[.int .i64 most] 3)).alloc (.cells #[.bool false] 4)
  have H0 := Lib.hid hp0
  have HT := Lib.hid hT
  have HB := Lib.hid hB
  have HC := Lib.hid hC
  have hBl := hB.len
  obtain ⟨Ab, cb, rfl, -⟩ := rd_slice hB.rd
  obtain ⟨Ac, cc, rfl, -⟩ := rd_slice hC.rd
  clear hB hC hT h hp0
  refine (callsIn_wide (n := 9)).1 ?_
  refine callsIn_of_wp_marks Tryz.func12 rfl trivial ?_ rfl
  simp only [Tryz.ntmps12, List.size_toArray, List.length_cons, List.length_nil, Nat.reduceAdd, Nat.reduceSub, Array.replicate_succ, Array.replicate_zero, List.push_toArray, List.append_toArray, List.nil_append, List.cons_append]
  gi_wp2_with fail
  refine ⟨trivial, callsIn_wide.2 ?_⟩
  rw [World.size_alloc] at H0
  generalize (w.alloc (.cells #[.int .i64 most] 3)).alloc (.cells #[.bool false] 4) = w1 at *
  generalize w.heap.size + 1 = br at *
  generalize w.heap.size = bm at *
  refine (copied_P B H0.out (HB.out.at H0.out) (by omega)).mono ?_; rintro e w2 ⟨g, rfl, hg, hp⟩
  have H2 := Lib.hid hp
  have HCN : Hid (C ≠ [] → (Value.slice Ac C.length cc).ownBlock ≠ some g) := Lib.hid (fun hne e => by have := HC.out.old hne g e; omega)
  clear hp hg H0
  gi_wp2_with fail
  refine ⟨trivial, callsIn_wide.2 ?_⟩
  refine (reach_any B (HB.out.at H2.out) (by omega)).mono ?_; rintro e w3 ⟨va, vl, rfl, ha, hl, hm⟩
  have hp3 := ((H2.out.rows2 hm ha hl).alloc (.cells #[va] 62)).alloc (.cells #[vl] 38)
  have H3 := Lib.hid hp3
  obtain ⟨Aa, ca, rfl⟩ := own_ctor ha
  obtain ⟨Al, cl, rfl⟩ := own_ctor hl
  clear hm ha hl hp3 H2
  gi_wp2_with fail
  refine ⟨trivial, callsIn_wide.2 ?_⟩
  rw [World.size_alloc] at H3
  refine (each_any B (rd_mark (H3.out.blkOf ((Pc.Ent.right _ _).trans ((Pc.Ent.right _ _).trans ((Pc.Ent.right _ _).trans (Pc.Ent.left _ _))))) (by omega)) (by omega)).mono ?_; rintro e w4 ⟨bx, v, rfl, hp⟩
  have hp4 := (H3.out.addP hp).alloc (.cells #[.func (.func 79) #[] #[.pointer (some ⟨bx, 0, none⟩)]] 66)
  have hstore := run_store_one w4 .nilFunc (.func (.func 79) #[] #[.pointer (some ⟨bx, 0, none⟩)]) 66 rfl
  have H4 := Lib.hid hp4
  clear hp hp4 H3
  generalize w3.heap.size + 1 = bw at *
  generalize w3.heap.size = ba at *
  have hll : (recs (rsAt B 0)).length ≤ 268435457 := by
    have h1 := recsF_len ((RSt.new B).bytes.length + 1) (RSt.new B)
    have h2 : (recs (rsAt B 0)).length ≤ B.length + 1 := h1
    omega
  generalize hL : recs (rsAt B 0) = L at *
  have HL : Hid (recs (RSt.new B) = L) := Lib.hid hL
  clear hL
  have hnil := func_nil (w4.alloc (.cells #[.func (.func 79) #[] #[.pointer (some ⟨bx, 0, none⟩)]] 66)) 79 bx
  gi_wp2_with fail
  clear hstore hnil
  refine ⟨trivial, callsIn_wide.2 ?_⟩
  generalize w4.alloc (.cells #[.func (.func 79) #[] #[.pointer (some ⟨bx, 0, none⟩)]] 66) = w5 at *
  generalize w4.heap.size = bs at *
  have hp5 := H4.out.ent (Pc.Ent.at6 _ _ _ _ _ _ _)
  refine (overB_N B C rfl hp5 (HC.out.at hp5) HCN.out (by omega)).mono ?_; rintro e w6 ⟨rfl, hp⟩
  have hp6 := (hp.alloc (.cells #[.int .i64 0] 3)).ent (ent_ea _ _ _ _ _ _ _ _ _ _ _)
  have H6 := Lib.hid hp6
  clear hp hp6 H4 hp5
  have HS : Hid (SeqX Tryz.prog 79 #[.pointer (some ⟨bx, 0, none⟩)] encE (EachX bx v B) L w0 []) := Lib.hid (by have h := each_seqx (bx := bx) (v := v) B (by omega) HT.out; rw [HL.out] at h; exact h)
  clear HL
  gi_upto_region 8 with fail
  generalize w6.alloc (.cells #[.int .i64 0] 3) = w7 at *
  generalize w6.heap.size = bn at *
  have H7 : Hid (Post (EaK bn bm br ba bw bs bx most (.slice Aa L.length ca) (.slice Al L.length cl) v L B ((BkQ b n).star R) 0) w0 [] w7) := Lib.hid H6.out
  clear H6
  obtain ⟨-, -, -, -, -, e5, -, -⟩ := ea_cells H7.out ((Pc.Ent.right _ _).trans (Pc.Ent.left _ _))
  gi_wp2_with fail
  clear e5
  refine wpIn_rangeFunc_x (gf := 79) rfl (enters_of Tryz.func79 (by kernel_rfl) rfl) HS.out (fun _ => rfl) (EaK bn bm br ba bw bs bx most (.slice Aa L.length ca) (.slice Al L.length cl) v L B ((BkQ b n).star R)) (fun c k => Pc.when (c = .exit 0 ∧ (k : Int) = most) (EaK bn bm br ba bw bs bx most (.slice Aa L.length ca) (.slice Al L.length cl) v L B ((BkQ b n).star R) k)) ((Pc.Ent.right _ _).trans ((Pc.Ent.left _ _).trans ((Pc.Ent.right _ _).trans ((Pc.Ent.right _ _).trans ((Pc.Ent.right _ _).trans ((Pc.Ent.right _ _).trans ((Pc.Ent.right _ _).trans ((Pc.Ent.right _ _).trans ((Pc.Ent.right _ _).trans (Pc.Ent.refl _)))))))))) H7.out ?round ?done ?stop
  case round =>
    intro lp k x R2 W hxk hp
    have HXK := Lib.hid hxk
    obtain ⟨pl, s⟩ := x
    have hstore := run_store_new (P := Tryz.prog) W zeroV (statV s) 35 rfl (statV_one s)
    unfold zeroV at hstore
    have HP2 := Lib.hid (hp.alloc (.cells (statV s) 35))
    have hkl : k < L.length := (List.getElem?_eq_some_iff.1 hxk).1
    clear hp hxk
    unfold encE
    simp only [Array.zip]
    gi_wp2_with fail
    refine ⟨(Pc.blk W.heap.size (.cells (statV s) 35)).star (EaK bn bm br ba bw bs bx most (.slice Aa L.length ca) (.slice Al L.length cl) v L B ((BkQ b n).star R) k), HP2.out.ent (Pc.Ent.assoc' _ _ _), ?_⟩
    intro r R3 W2 hp2
    generalize (Pc.blk lp (.loop r)).star R3 = RR at *
    clear hstore HP2
    generalize W.heap.size = b7 at *
    have HP := Lib.hid hp2
    obtain ⟨c0, c1, c2, c3, c4, c5, c6, c7, c8, c9, c10, c11, c12⟩ := stat_cells (hp2.blkOf ((Pc.Ent.left _ _).trans (Pc.Ent.left _ _)))
    obtain ⟨n0, n1⟩ := blk_one (hp2.blkOf ((Pc.Ent.left _ _).trans ((Pc.Ent.right _ _).trans (Pc.Ent.left _ _))))
    obtain ⟨e0, e1, e2, e3, e4, e5, e6, e7⟩ := ea_cells hp2 ((Pc.Ent.left _ _).trans ((Pc.Ent.right _ _).trans ((Pc.Ent.right _ _).trans (Pc.Ent.left _ _))))
    obtain ⟨ga, offa, rfl, a0⟩ := rd_atV (Rd.of_own e6) HXK.out
    obtain ⟨gl, offl, rfl, hrg⟩ := (sts_of_flatS e7).at (i := k) (s := s) (by rw [List.getElem?_map, HXK.out]; rfl)
    obtain ⟨d0, d1, d2, d3, d4, d5, d6, d7, d8, d9, d10, d11, d12⟩ := range_stat hrg
    clear e6 e7 hrg hp2
    have q1 : decide (L.length ≤ k) = false := by simp; omega
    have q2 := nat_ne_self pl
    gi_wp2_with fail
    refine wpIn_region_quiet_litR (by kernel_rfl) (by kernel_rfl) (by kernel_rfl) ?_
    repeat (gi_big_quiet_step (fail))
    refine wpQuietIn_nil ?_
    rintro _ ⟨nq, rfl⟩
    gi_upto_region 14 with fail
    have hp3 := EaK_next (((HP.out.still ((Mods.refl [] W2).drewN nq)).ent (ent_rd _ _ _ _)).step (blk_turn (i := 0) (.int .i64 ((k : Int) + 1))))
    have HP3 := Lib.hid hp3
    clear n0 n1 e0 e1 e2 e3 e4 e5 a0 c0 c1 c2 c3 c4 c5 c6 c7 c8 c9 c10 c11 c12 d0 d1 d2 d3 d4 d5 d6 d7 d8 d9 d10 d11 d12 q1 q2 HP
    obtain ⟨n0, n1⟩ := blk_one (hp3.blkOf ((Pc.Ent.left _ _).trans (Pc.Ent.left _ _)))
    obtain ⟨e0, -, -, -, -, -, -, -⟩ := ea_cells hp3 ((Pc.Ent.left _ _).trans ((Pc.Ent.right _ _).trans (Pc.Ent.left _ _)))
    clear hp3
    rw [Int.natCast_add] at n0
    generalize (W2.drewN nq).setCell ⟨bn, 0, none⟩ (.int .i64 ((k : Int) + 1)) = W3 at *
    by_cases hm : (k : Int) + 1 = most
    · have q3 : ((k : Int) + 1 == most) = true := by simp [hm]
      have HM : Hid (((k + 1 : Nat) : Int) = most) := Lib.hid (by omega)
      clear hm
      gi_wp2_with fail
      exact HP3.out.ent ((Pc.Ent.whenI ⟨rfl, HM.out⟩).mono (Pc.Ent.refl _))
    · have q3 : ((k : Int) + 1 == most) = false := by simp [hm]
      clear hm
      gi_wp2_with fail
      exact HP3.out
  case done =>
    intro D W hp
    have HP := Lib.hid hp
    clear hp
    obtain ⟨n0, n1⟩ := blk_one (HP.out.blkOf ((Pc.Ent.left _ _).trans (Pc.Ent.left _ _)))
    obtain ⟨e0, -, -, -, e4, -, -, -⟩ := ea_cells HP.out ((Pc.Ent.left _ _).trans ((Pc.Ent.right _ _).trans (Pc.Ent.left _ _)))
    by_cases hlm : (L.length : Int) = most
    · have q1 : ((L.length : Int) != most) = false := by simp [hlm]
      clear hlm
      gi_upto_region 18 with fail
      clear n0 n1 e0 e4 q1
      have HZ := Lib.hid (EaK_zero HP.out)
      clear HP
      generalize W.setCell ⟨bn, 0, none⟩ (.int .i64 0) = V0 at *
      obtain ⟨-, -, -, -, -, e5, -, -⟩ := ea_cells HZ.out ((Pc.Ent.left _ _).trans ((Pc.Ent.right _ _).trans (Pc.Ent.left _ _)))
      gi_wp2_with fail
      clear e5
      refine wpIn_rangeFunc_x (gf := 79) rfl (enters_of Tryz.func79 (by kernel_rfl) rfl) HS.out (fun _ => rfl) (fun k => (EaK bn bm br ba bw bs bx most (.slice Aa L.length ca) (.slice Al L.length cl) v L B ((BkQ b n).star R) k).star (Pc.blk D (.deferred (some [])))) (fun _ _ => Pc.when False Pc.emp) ((Pc.Ent.left _ _).trans ((Pc.Ent.right _ _).trans ((Pc.Ent.left _ _).trans ((Pc.Ent.right _ _).trans ((Pc.Ent.right _ _).trans ((Pc.Ent.right _ _).trans ((Pc.Ent.right _ _).trans ((Pc.Ent.right _ _).trans ((Pc.Ent.right _ _).trans ((Pc.Ent.right _ _).trans (Pc.Ent.refl _))))))))))) HZ.out ?_ ?_ ?_
      · intro lp k x R2 W hxk hp
        have HXK := Lib.hid hxk
        obtain ⟨pl, s⟩ := x
        have hstore := run_store_new (P := Tryz.prog) W zeroV (statV s) 35 rfl (statV_one s)
        unfold zeroV at hstore
        have HP2 := Lib.hid (hp.alloc (.cells (statV s) 35))
        have hkl : k < L.length := (List.getElem?_eq_some_iff.1 hxk).1
        clear hp hxk
        unfold encE
        simp only [Array.zip]
        gi_wp2_with fail
        refine ⟨(Pc.blk W.heap.size (.cells (statV s) 35)).star ((EaK bn bm br ba bw bs bx most (.slice Aa L.length ca) (.slice Al L.length cl) v L B ((BkQ b n).star R) k).star (Pc.blk D (.deferred (some [])))), HP2.out.ent (Pc.Ent.assoc' _ _ _), ?_⟩
        intro r R3 W2 hp2
        clear hstore HP2
        generalize W.heap.size = b7 at *
        have HP := Lib.hid hp2
        obtain ⟨c0, c1, c2, c3, c4, c5, c6, c7, c8, c9, c10, c11, c12⟩ := stat_cells (hp2.blkOf ((Pc.Ent.left _ _).trans (Pc.Ent.left _ _)))
        obtain ⟨n0, n1⟩ := blk_one (hp2.blkOf ((Pc.Ent.left _ _).trans ((Pc.Ent.right _ _).trans ((Pc.Ent.left _ _).trans (Pc.Ent.left _ _)))))
        obtain ⟨e0, e1, e2, e3, e4, e5, e6, e7⟩ := ea_cells hp2 ((Pc.Ent.left _ _).trans ((Pc.Ent.right _ _).trans ((Pc.Ent.left _ _).trans ((Pc.Ent.right _ _).trans (Pc.Ent.left _ _)))))
        obtain ⟨ga, offa, hga, a0⟩ := rd_atV (Rd.of_own e6) HXK.out
        obtain ⟨gl, offl, hgl, hrg⟩ := (sts_of_flatS e7).at (i := k) (s := s) (by rw [List.getElem?_map, HXK.out]; rfl)
        obtain ⟨d0, d1, d2, d3, d4, d5, d6, d7, d8, d9, d10, d11, d12⟩ := range_stat hrg
        rw [hga] at e3
        rw [hgl] at e4
        have HGA := Lib.hid hga
        have HGL := Lib.hid hgl
        clear e6 e7 hrg hp2 hga hgl
        have q1 : decide (L.length ≤ k) = false := by simp; omega
        have q2 := nat_ne_self pl
        gi_wp2_with fail
        refine wpIn_region_quiet_litR (by kernel_rfl) (by kernel_rfl) (by kernel_rfl) ?_
        repeat (gi_big_quiet_step (fail))
        refine wpQuietIn_nil ?_
        rintro _ ⟨nq, rfl⟩
        gi_upto_region 24 with fail
        have hp3 := EaK_next (((HP.out.still ((Mods.refl [] W2).drewN nq)).ent (ent_rd2 _ _ _ _ _)).step (blk_turn (i := 0) (.int .i64 ((k : Int) + 1))))
        have HP3 := Lib.hid (hp3.alloc (.cells #[.int .i64 0] 3))
        clear n0 n1 e0 e1 e2 e3 e4 e5 a0 c0 c1 c2 c3 c4 c5 c6 c7 c8 c9 c10 c11 c12 d0 d1 d2 d3 d4 d5 d6 d7 d8 d9 d10 d11 d12 q1 q2 HP hp3
        generalize (W2.drewN nq).setCell ⟨bn, 0, none⟩ (.int .i64 ((k : Int) + 1)) = W3 at *
        gi_upto_region 25 with fail
        generalize W3.alloc (.cells #[.int .i64 0] 3) = W4 at *
        generalize W3.heap.size = bm2 at *
        obtain ⟨-, -, -, -, -, e5, -, -⟩ := ea_cells HP3.out ((Pc.Ent.right _ _).trans ((Pc.Ent.left _ _).trans ((Pc.Ent.right _ _).trans (Pc.Ent.left _ _))))
        gi_wp2_with fail
        clear e5
        generalize hKJ : (fun j : Nat => (Pc.blk bm2 (.cells #[.int .i64 (j : Int)] 3)).star ((EaK bn bm br ba bw bs bx most (.slice Aa L.length ca) (.slice Al L.length cl) v L B ((BkQ b n).star R) (k + 1)).star ((Pc.blk D (.deferred (some []))).star ((Pc.blk lp (.loop r)).star R3)))) = KJ at *
        have HKJ : Hid (∀ j, KJ j = _) := Lib.hid (fun j => (congrFun hKJ j).symm)
        clear hKJ
        refine wpIn_rangeFunc_xi (gf := 79) rfl (enters_of Tryz.func79 (by kernel_rfl) rfl) (lo := lp) (r0 := r) HS.out (fun _ => rfl) KJ (fun c j => Pc.when (c = .exit 4 ∧ (j : Int) = most) (KJ j)) (by rw [HKJ.out]; exact (Pc.Ent.right _ _).trans ((Pc.Ent.left _ _).trans ((Pc.Ent.right _ _).trans ((Pc.Ent.left _ _).trans ((Pc.Ent.right _ _).trans ((Pc.Ent.right _ _).trans ((Pc.Ent.right _ _).trans ((Pc.Ent.right _ _).trans ((Pc.Ent.right _ _).trans ((Pc.Ent.right _ _).trans ((Pc.Ent.right _ _).trans (Pc.Ent.refl _)))))))))))) (by rw [HKJ.out]; exact HP3.out) (by rw [HKJ.out]; exact ((Pc.Ent.right _ _).trans ((Pc.Ent.right _ _).trans ((Pc.Ent.right _ _).trans (Pc.Ent.left _ _))))) ?_ ?_ ?_
        · intro l2 j y R4 V hyj hq
          have HYJ := Lib.hid hyj
          have HQ := Lib.hid hq
          obtain ⟨pq, sq⟩ := y
          have hjl : j < L.length := (List.getElem?_eq_some_iff.1 hyj).1
          clear hyj hq
          unfold encE
          simp only [Array.zip]
          gi_wp2_with fail
          refine ⟨KJ j, HQ.out, ?_⟩
          clear HQ
          intro r5 R5 V2 hq2
          rw [HKJ.out] at hq2
          have HQ := Lib.hid hq2
          obtain ⟨n0, n1⟩ := blk_one (hq2.blkOf ((Pc.Ent.left _ _).trans (Pc.Ent.left _ _)))
          obtain ⟨e0, e1, e2, e3, e4, e5, e6, e7⟩ := ea_cells hq2 ((Pc.Ent.left _ _).trans ((Pc.Ent.right _ _).trans ((Pc.Ent.left _ _).trans ((Pc.Ent.right _ _).trans (Pc.Ent.left _ _)))))
          obtain ⟨ga2, offa2, hga, a0⟩ := rd_atV (Rd.of_own e6) HYJ.out
          rw [hga] at e3
          clear e6 e7 hq2 hga
          have q1 : decide (L.length ≤ j) = false := by simp; omega
          have q2 := nat_ne_self pq
          gi_upto_region 30 with fail
          have hq3 := (HQ.out.ent (Pc.Ent.assoc _ _ _)).step (blk_turn (i := 0) (.int .i64 ((j : Int) + 1)))
          clear n0 n1 e0 e1 e2 e3 e4 e5 a0 q1 q2 HQ
          obtain ⟨n0, n1⟩ := blk_one (hq3.blkOf (Pc.Ent.left _ _))
          obtain ⟨e0, -, -, -, -, -, -, -⟩ := ea_cells hq3 ((Pc.Ent.right _ _).trans ((Pc.Ent.left _ _).trans ((Pc.Ent.left _ _).trans ((Pc.Ent.right _ _).trans (Pc.Ent.left _ _)))))
          have HQ3 : Hid (Post ((KJ (j + 1)).star ((Pc.blk l2 (.loop r5)).star R5)) w0 [] (V2.setCell ⟨bm2, 0, none⟩ (.int .i64 ((j : Int) + 1)))) := Lib.hid (by rw [HKJ.out, Int.natCast_add]; exact hq3.ent (Pc.Ent.assoc' _ _ _))
          clear hq3
          generalize V2.setCell ⟨bm2, 0, none⟩ (.int .i64 ((j : Int) + 1)) = V3 at *
          by_cases hm : (j : Int) + 1 = most
          · have q3 : ((j : Int) + 1 == most) = true := by simp [hm]
            have HM : Hid (((j + 1 : Nat) : Int) = most) := Lib.hid (by omega)
            clear hm
            gi_wp2_with fail
            exact HQ3.out.ent ((Pc.Ent.whenI ⟨rfl, HM.out⟩).mono (Pc.Ent.refl _))
          · have q3 : ((j : Int) + 1 == most) = false := by simp [hm]
            clear hm
            gi_wp2_with fail
            exact HQ3.out
        · intro V hq
          rw [HKJ.out] at hq
          have HQ := Lib.hid (hq.ent ((Pc.Ent.right _ _).trans (Pc.Ent.assoc' _ _ _)))
          clear hq
          gi_wp2_with fail
          exact HQ.out
        · intro c j V _ hq
          obtain ⟨⟨hc, -⟩, hq2⟩ := Post.whenE' hq
          subst hc
          rw [HKJ.out] at hq2
          have HQ := Lib.hid (hq2.ent ((Pc.Ent.right _ _).trans (Pc.Ent.assoc' _ _ _)))
          clear hq2 hq
          gi_wp2_with fail
          exact HQ.out
      · intro D2 W hp
        have HP := Lib.hid hp
        obtain ⟨n0, n1⟩ := blk_one (hp.blkOf ((Pc.Ent.left _ _).trans ((Pc.Ent.left _ _).trans (Pc.Ent.left _ _))))
        obtain ⟨-, e1, e2, -, e4, -, -, -⟩ := ea_cells hp ((Pc.Ent.left _ _).trans ((Pc.Ent.left _ _).trans ((Pc.Ent.right _ _).trans (Pc.Ent.left _ _))))
        have q1 : ((L.length : Int) == (L.length : Int)) = true := by simp
        clear hp
        gi_wp2_with fail
        clear n0 n1 e1 e2 e4 q1
        have hp3 := (HP.out.ent (ent_end _ _ _ _ _ _ _)).step (blk_turn (i := 0) (.bool true))
        generalize W.setCell ⟨br, 0, none⟩ (.bool true) = V4 at *
        have t1 := hp3.blkOf ((Pc.Ent.right _ _).trans (Pc.Ent.left _ _))
        have hp4 := (hp3.ent (Pc.Ent.swap _ _ _)).step (put_turn (o' := .deferred none))
        have t2 := hp4.blkOf ((Pc.Ent.right _ _).trans ((Pc.Ent.right _ _).trans (Pc.Ent.left _ _)))
        have hp5 := (hp4.ent (Pc.Ent.at3 _ _ _ _)).step (put_turn (o' := .deferred none))
        have t3 := hp5.blkOf ((Pc.Ent.right _ _).trans ((Pc.Ent.right _ _).trans (Pc.Ent.left _ _)))
        refine ⟨by simp, .inl ⟨_, _, rfl, run_takeDeferred t1, by simp, .inl ⟨_, _, rfl, run_takeDeferred t2, ?_⟩⟩⟩
        refine ⟨_, results_cell1 rfl _ _ rfl (blk_one t3).1, rfl, hp5.ent ((Pc.Ent.right _ _).trans ((Pc.Ent.right _ _).trans (Pc.Ent.right _ _)))⟩
      · intro D2 c k W _ hp
        exact (Post.whenE hp).1.elim
    · have q1 : ((L.length : Int) != most) = true := by simp [hlm]
      have q2 := nat_ne_self L.length
      clear hlm
      gi_upto_region 18 with fail
      clear n0 n1 e0 e4 q1 q2
      have HZ := Lib.hid (EaK_zero HP.out)
      clear HP
      generalize W.setCell ⟨bn, 0, none⟩ (.int .i64 0) = V0 at *
      obtain ⟨-, -, -, -, -, e5, -, -⟩ := ea_cells HZ.out ((Pc.Ent.left _ _).trans ((Pc.Ent.right _ _).trans (Pc.Ent.left _ _)))
      gi_wp2_with fail
      clear e5
      refine wpIn_rangeFunc_x (gf := 79) rfl (enters_of Tryz.func79 (by kernel_rfl) rfl) HS.out (fun _ => rfl) (fun k => (EaK bn bm br ba bw bs bx most (.slice Aa L.length ca) (.slice Al L.length cl) v L B ((BkQ b n).star R) k).star (Pc.blk D (.deferred (some [])))) (fun _ _ => Pc.when False Pc.emp) ((Pc.Ent.left _ _).trans ((Pc.Ent.right _ _).trans ((Pc.Ent.left _ _).trans ((Pc.Ent.right _ _).trans ((Pc.Ent.right _ _).trans ((Pc.Ent.right _ _).trans ((Pc.Ent.right _ _).trans ((Pc.Ent.right _ _).trans ((Pc.Ent.right _ _).trans ((Pc.Ent.right _ _).trans (Pc.Ent.refl _))))))))))) HZ.out ?_ ?_ ?_
      · intro lp k x R2 W hxk hp
        have HXK := Lib.hid hxk
        obtain ⟨pl, s⟩ := x
        have hstore := run_store_new (P := Tryz.prog) W zeroV (statV s) 35 rfl (statV_one s)
        unfold zeroV at hstore
        have HP2 := Lib.hid (hp.alloc (.cells (statV s) 35))
        have hkl : k < L.length := (List.getElem?_eq_some_iff.1 hxk).1
        clear hp hxk
        unfold encE
        simp only [Array.zip]
        gi_wp2_with fail
        refine ⟨(Pc.blk W.heap.size (.cells (statV s) 35)).star ((EaK bn bm br ba bw bs bx most (.slice Aa L.length ca) (.slice Al L.length cl) v L B ((BkQ b n).star R) k).star (Pc.blk D (.deferred (some [])))), HP2.out.ent (Pc.Ent.assoc' _ _ _), ?_⟩
        intro r R3 W2 hp2
        clear hstore HP2
        generalize W.heap.size = b7 at *
        have HP := Lib.hid hp2
        obtain ⟨c0, c1, c2, c3, c4, c5, c6, c7, c8, c9, c10, c11, c12⟩ := stat_cells (hp2.blkOf ((Pc.Ent.left _ _).trans (Pc.Ent.left _ _)))
        obtain ⟨n0, n1⟩ := blk_one (hp2.blkOf ((Pc.Ent.left _ _).trans ((Pc.Ent.right _ _).trans ((Pc.Ent.left _ _).trans (Pc.Ent.left _ _)))))
        obtain ⟨e0, e1, e2, e3, e4, e5, e6, e7⟩ := ea_cells hp2 ((Pc.Ent.left _ _).trans ((Pc.Ent.right _ _).trans ((Pc.Ent.left _ _).trans ((Pc.Ent.right _ _).trans (Pc.Ent.left _ _)))))
        obtain ⟨ga, offa, hga, a0⟩ := rd_atV (Rd.of_own e6) HXK.out
        obtain ⟨gl, offl, hgl, hrg⟩ := (sts_of_flatS e7).at (i := k) (s := s) (by rw [List.getElem?_map, HXK.out]; rfl)
        obtain ⟨d0, d1, d2, d3, d4, d5, d6, d7, d8, d9, d10, d11, d12⟩ := range_stat hrg
        rw [hga] at e3
        rw [hgl] at e4
        have HGA := Lib.hid hga
        have HGL := Lib.hid hgl
        clear e6 e7 hrg hp2 hga hgl
        have q1 : decide (L.length ≤ k) = false := by simp; omega
        have q2 := nat_ne_self pl
        gi_wp2_with fail
        refine wpIn_region_quiet_litR (by kernel_rfl) (by kernel_rfl) (by kernel_rfl) ?_
        repeat (gi_big_quiet_step (fail))
        refine wpQuietIn_nil ?_
        rintro _ ⟨nq, rfl⟩
        gi_upto_region 24 with fail
        have hp3 := EaK_next (((HP.out.still ((Mods.refl [] W2).drewN nq)).ent (ent_rd2 _ _ _ _ _)).step (blk_turn (i := 0) (.int .i64 ((k : Int) + 1))))
        have HP3 := Lib.hid (hp3.alloc (.cells #[.int .i64 0] 3))
        clear n0 n1 e0 e1 e2 e3 e4 e5 a0 c0 c1 c2 c3 c4 c5 c6 c7 c8 c9 c10 c11 c12 d0 d1 d2 d3 d4 d5 d6 d7 d8 d9 d10 d11 d12 q1 q2 HP hp3
        generalize (W2.drewN nq).setCell ⟨bn, 0, none⟩ (.int .i64 ((k : Int) + 1)) = W3 at *
        gi_upto_region 25 with fail
        generalize W3.alloc (.cells #[.int .i64 0] 3) = W4 at *
        generalize W3.heap.size = bm2 at *
        obtain ⟨-, -, -, -, -, e5, -, -⟩ := ea_cells HP3.out ((Pc.Ent.right _ _).trans ((Pc.Ent.left _ _).trans ((Pc.Ent.right _ _).trans (Pc.Ent.left _ _))))
        gi_wp2_with fail
        clear e5
        generalize hKJ : (fun j : Nat => (Pc.blk bm2 (.cells #[.int .i64 (j : Int)] 3)).star ((EaK bn bm br ba bw bs bx most (.slice Aa L.length ca) (.slice Al L.length cl) v L B ((BkQ b n).star R) (k + 1)).star ((Pc.blk D (.deferred (some []))).star ((Pc.blk lp (.loop r)).star R3)))) = KJ at *
        have HKJ : Hid (∀ j, KJ j = _) := Lib.hid (fun j => (congrFun hKJ j).symm)
        clear hKJ
        refine wpIn_rangeFunc_xi (gf := 79) rfl (enters_of Tryz.func79 (by kernel_rfl) rfl) (lo := lp) (r0 := r) HS.out (fun _ => rfl) KJ (fun c j => Pc.when (c = .exit 4 ∧ (j : Int) = most) (KJ j)) (by rw [HKJ.out]; exact (Pc.Ent.right _ _).trans ((Pc.Ent.left _ _).trans ((Pc.Ent.right _ _).trans ((Pc.Ent.left _ _).trans ((Pc.Ent.right _ _).trans ((Pc.Ent.right _ _).trans ((Pc.Ent.right _ _).trans ((Pc.Ent.right _ _).trans ((Pc.Ent.right _ _).trans ((Pc.Ent.right _ _).trans ((Pc.Ent.right _ _).trans (Pc.Ent.refl _)))))))))))) (by rw [HKJ.out]; exact HP3.out) (by rw [HKJ.out]; exact ((Pc.Ent.right _ _).trans ((Pc.Ent.right _ _).trans ((Pc.Ent.right _ _).trans (Pc.Ent.left _ _))))) ?_ ?_ ?_
        · intro l2 j y R4 V hyj hq
          have HYJ := Lib.hid hyj
          have HQ := Lib.hid hq
          obtain ⟨pq, sq⟩ := y
          have hjl : j < L.length := (List.getElem?_eq_some_iff.1 hyj).1
          clear hyj hq
          unfold encE
          simp only [Array.zip]
          gi_wp2_with fail
          refine ⟨KJ j, HQ.out, ?_⟩
          clear HQ
          intro r5 R5 V2 hq2
          rw [HKJ.out] at hq2
          have HQ := Lib.hid hq2
          obtain ⟨n0, n1⟩ := blk_one (hq2.blkOf ((Pc.Ent.left _ _).trans (Pc.Ent.left _ _)))
          obtain ⟨e0, e1, e2, e3, e4, e5, e6, e7⟩ := ea_cells hq2 ((Pc.Ent.left _ _).trans ((Pc.Ent.right _ _).trans ((Pc.Ent.left _ _).trans ((Pc.Ent.right _ _).trans (Pc.Ent.left _ _)))))
          obtain ⟨ga2, offa2, hga, a0⟩ := rd_atV (Rd.of_own e6) HYJ.out
          rw [hga] at e3
          clear e6 e7 hq2 hga
          have q1 : decide (L.length ≤ j) = false := by simp; omega
          have q2 := nat_ne_self pq
          gi_upto_region 30 with fail
          have hq3 := (HQ.out.ent (Pc.Ent.assoc _ _ _)).step (blk_turn (i := 0) (.int .i64 ((j : Int) + 1)))
          clear n0 n1 e0 e1 e2 e3 e4 e5 a0 q1 q2 HQ
          obtain ⟨n0, n1⟩ := blk_one (hq3.blkOf (Pc.Ent.left _ _))
          obtain ⟨e0, -, -, -, -, -, -, -⟩ := ea_cells hq3 ((Pc.Ent.right _ _).trans ((Pc.Ent.left _ _).trans ((Pc.Ent.left _ _).trans ((Pc.Ent.right _ _).trans (Pc.Ent.left _ _)))))
          have HQ3 : Hid (Post ((KJ (j + 1)).star ((Pc.blk l2 (.loop r5)).star R5)) w0 [] (V2.setCell ⟨bm2, 0, none⟩ (.int .i64 ((j : Int) + 1)))) := Lib.hid (by rw [HKJ.out, Int.natCast_add]; exact hq3.ent (Pc.Ent.assoc' _ _ _))
          clear hq3
          generalize V2.setCell ⟨bm2, 0, none⟩ (.int .i64 ((j : Int) + 1)) = V3 at *
          by_cases hm : (j : Int) + 1 = most
          · have q3 : ((j : Int) + 1 == most) = true := by simp [hm]
            have HM : Hid (((j + 1 : Nat) : Int) = most) := Lib.hid (by omega)
            clear hm
            gi_wp2_with fail
            exact HQ3.out.ent ((Pc.Ent.whenI ⟨rfl, HM.out⟩).mono (Pc.Ent.refl _))
          · have q3 : ((j : Int) + 1 == most) = false := by simp [hm]
            clear hm
            gi_wp2_with fail
            exact HQ3.out
        · intro V hq
          rw [HKJ.out] at hq
          have HQ := Lib.hid (hq.ent ((Pc.Ent.right _ _).trans (Pc.Ent.assoc' _ _ _)))
          clear hq
          gi_wp2_with fail
          exact HQ.out
        · intro c j V _ hq
          obtain ⟨⟨hc, -⟩, hq2⟩ := Post.whenE' hq
          subst hc
          rw [HKJ.out] at hq2
          have HQ := Lib.hid (hq2.ent ((Pc.Ent.right _ _).trans (Pc.Ent.assoc' _ _ _)))
          clear hq2 hq
          gi_wp2_with fail
          exact HQ.out
      · intro D2 W hp
        have HP := Lib.hid hp
        obtain ⟨n0, n1⟩ := blk_one (hp.blkOf ((Pc.Ent.left _ _).trans ((Pc.Ent.left _ _).trans (Pc.Ent.left _ _))))
        obtain ⟨-, e1, e2, -, e4, -, -, -⟩ := ea_cells hp ((Pc.Ent.left _ _).trans ((Pc.Ent.left _ _).trans ((Pc.Ent.right _ _).trans (Pc.Ent.left _ _))))
        have q1 : ((L.length : Int) == (L.length : Int)) = true := by simp
        clear hp
        gi_wp2_with fail
        clear n0 n1 e1 e2 e4 q1
        have hp3 := (HP.out.ent (ent_end _ _ _ _ _ _ _)).step (blk_turn (i := 0) (.bool true))
        generalize W.setCell ⟨br, 0, none⟩ (.bool true) = V4 at *
        have t1 := hp3.blkOf ((Pc.Ent.right _ _).trans (Pc.Ent.left _ _))
        have hp4 := (hp3.ent (Pc.Ent.swap _ _ _)).step (put_turn (o' := .deferred none))
        have t2 := hp4.blkOf ((Pc.Ent.right _ _).trans ((Pc.Ent.right _ _).trans (Pc.Ent.left _ _)))
        have hp5 := (hp4.ent (Pc.Ent.at3 _ _ _ _)).step (put_turn (o' := .deferred none))
        have t3 := hp5.blkOf ((Pc.Ent.right _ _).trans ((Pc.Ent.right _ _).trans (Pc.Ent.left _ _)))
        refine ⟨by simp, .inl ⟨_, _, rfl, run_takeDeferred t1, by simp, .inl ⟨_, _, rfl, run_takeDeferred t2, ?_⟩⟩⟩
        refine ⟨_, results_cell1 rfl _ _ rfl (blk_one t3).1, rfl, hp5.ent ((Pc.Ent.right _ _).trans ((Pc.Ent.right _ _).trans (Pc.Ent.right _ _)))⟩
      · intro D2 c k W _ hp
        exact (Post.whenE hp).1.elim
  case stop =>
    intro D c k W hk hp
    obtain ⟨⟨hc, hkm⟩, hp2⟩ := Post.whenE hp
    subst hc
    have HP := Lib.hid hp2
    clear hp hp2
    obtain ⟨n0, n1⟩ := blk_one (HP.out.blkOf ((Pc.Ent.left _ _).trans (Pc.Ent.left _ _)))
    obtain ⟨e0, -, -, -, e4, -, -, -⟩ := ea_cells HP.out ((Pc.Ent.left _ _).trans ((Pc.Ent.right _ _).trans (Pc.Ent.left _ _)))
    have q1 : ((k : Int) != most) = false := by simp [hkm]
    clear hkm
    gi_upto_region 18 with fail
    clear n0 n1 e0 e4 q1
    have HZ := Lib.hid (EaK_zero HP.out)
    clear HP
    generalize W.setCell ⟨bn, 0, none⟩ (.int .i64 0) = V0 at *
    obtain ⟨-, -, -, -, -, e5, -, -⟩ := ea_cells HZ.out ((Pc.Ent.left _ _).trans ((Pc.Ent.right _ _).trans (Pc.Ent.left _ _)))
    gi_wp2_with fail
    clear e5
    refine wpIn_rangeFunc_x (gf := 79) rfl (enters_of Tryz.func79 (by kernel_rfl) rfl) HS.out (fun _ => rfl) (fun k => (EaK bn bm br ba bw bs bx most (.slice Aa L.length ca) (.slice Al L.length cl) v L B ((BkQ b n).star R) k).star (Pc.blk D (.deferred (some [])))) (fun _ _ => Pc.when False Pc.emp) ((Pc.Ent.left _ _).trans ((Pc.Ent.right _ _).trans ((Pc.Ent.left _ _).trans ((Pc.Ent.right _ _).trans ((Pc.Ent.right _ _).trans ((Pc.Ent.right _ _).trans ((Pc.Ent.right _ _).trans ((Pc.Ent.right _ _).trans ((Pc.Ent.right _ _).trans ((Pc.Ent.right _ _).trans (Pc.Ent.refl _))))))))))) HZ.out ?_ ?_ ?_
    · intro lp k x R2 W hxk hp
      have HXK := Lib.hid hxk
      obtain ⟨pl, s⟩ := x
      have hstore := run_store_new (P := Tryz.prog) W zeroV (statV s) 35 rfl (statV_one s)
      unfold zeroV at hstore
      have HP2 := Lib.hid (hp.alloc (.cells (statV s) 35))
      have hkl : k < L.length := (List.getElem?_eq_some_iff.1 hxk).1
      clear hp hxk
      unfold encE
      simp only [Array.zip]
      gi_wp2_with fail
      refine ⟨(Pc.blk W.heap.size (.cells (statV s) 35)).star ((EaK bn bm br ba bw bs bx most (.slice Aa L.length ca) (.slice Al L.length cl) v L B ((BkQ b n).star R) k).star (Pc.blk D (.deferred (some [])))), HP2.out.ent (Pc.Ent.assoc' _ _ _), ?_⟩
      intro r R3 W2 hp2
      clear hstore HP2
      generalize W.heap.size = b7 at *
      have HP := Lib.hid hp2
      obtain ⟨c0, c1, c2, c3, c4, c5, c6, c7, c8, c9, c10, c11, c12⟩ := stat_cells (hp2.blkOf ((Pc.Ent.left _ _).trans (Pc.Ent.left _ _)))
      obtain ⟨n0, n1⟩ := blk_one (hp2.blkOf ((Pc.Ent.left _ _).trans ((Pc.Ent.right _ _).trans ((Pc.Ent.left _ _).trans (Pc.Ent.left _ _)))))
      obtain ⟨e0, e1, e2, e3, e4, e5, e6, e7⟩ := ea_cells hp2 ((Pc.Ent.left _ _).trans ((Pc.Ent.right _ _).trans ((Pc.Ent.left _ _).trans ((Pc.Ent.right _ _).trans (Pc.Ent.left _ _)))))
      obtain ⟨ga, offa, hga, a0⟩ := rd_atV (Rd.of_own e6) HXK.out
      obtain ⟨gl, offl, hgl, hrg⟩ := (sts_of_flatS e7).at (i := k) (s := s) (by rw [List.getElem?_map, HXK.out]; rfl)
      obtain ⟨d0, d1, d2, d3, d4, d5, d6, d7, d8, d9, d10, d11, d12⟩ := range_stat hrg
      rw [hga] at e3
      rw [hgl] at e4
      have HGA := Lib.hid hga
      have HGL := Lib.hid hgl
      clear e6 e7 hrg hp2 hga hgl
      have q1 : decide (L.length ≤ k) = false := by simp; omega
      have q2 := nat_ne_self pl
      gi_wp2_with fail
      refine wpIn_region_quiet_litR (by kernel_rfl) (by kernel_rfl) (by kernel_rfl) ?_
      repeat (gi_big_quiet_step (fail))
      refine wpQuietIn_nil ?_
      rintro _ ⟨nq, rfl⟩
      gi_upto_region 24 with fail
      have hp3 := EaK_next (((HP.out.still ((Mods.refl [] W2).drewN nq)).ent (ent_rd2 _ _ _ _ _)).step (blk_turn (i := 0) (.int .i64 ((k : Int) + 1))))
      have HP3 := Lib.hid (hp3.alloc (.cells #[.int .i64 0] 3))
      clear n0 n1 e0 e1 e2 e3 e4 e5 a0 c0 c1 c2 c3 c4 c5 c6 c7 c8 c9 c10 c11 c12 d0 d1 d2 d3 d4 d5 d6 d7 d8 d9 d10 d11 d12 q1 q2 HP hp3
      generalize (W2.drewN nq).setCell ⟨bn, 0, none⟩ (.int .i64 ((k : Int) + 1)) = W3 at *
      gi_upto_region 25 with fail
      generalize W3.alloc (.cells #[.int .i64 0] 3) = W4 at *
      generalize W3.heap.size = bm2 at *
      obtain ⟨-, -, -, -, -, e5, -, -⟩ := ea_cells HP3.out ((Pc.Ent.right _ _).trans ((Pc.Ent.left _ _).trans ((Pc.Ent.right _ _).trans (Pc.Ent.left _ _))))
      gi_wp2_with fail
      clear e5
      generalize hKJ : (fun j : Nat => (Pc.blk bm2 (.cells #[.int .i64 (j : Int)] 3)).star ((EaK bn bm br ba bw bs bx most (.slice Aa L.length ca) (.slice Al L.length cl) v L B ((BkQ b n).star R) (k + 1)).star ((Pc.blk D (.deferred (some []))).star ((Pc.blk lp (.loop r)).star R3)))) = KJ at *
      have HKJ : Hid (∀ j, KJ j = _) := Lib.hid (fun j => (congrFun hKJ j).symm)
      clear hKJ
      refine wpIn_rangeFunc_xi (gf := 79) rfl (enters_of Tryz.func79 (by kernel_rfl) rfl) (lo := lp) (r0 := r) HS.out (fun _ => rfl) KJ (fun c j => Pc.when (c = .exit 4 ∧ (j : Int) = most) (KJ j)) (by rw [HKJ.out]; exact (Pc.Ent.right _ _).trans ((Pc.Ent.left _ _).trans ((Pc.Ent.right _ _).trans ((Pc.Ent.left _ _).trans ((Pc.Ent.right _ _).trans ((Pc.Ent.right _ _).trans ((Pc.Ent.right _ _).trans ((Pc.Ent.right _ _).trans ((Pc.Ent.right _ _).trans ((Pc.Ent.right _ _).trans ((Pc.Ent.right _ _).trans (Pc.Ent.refl _)))))))))))) (by rw [HKJ.out]; exact HP3.out) (by rw [HKJ.out]; exact ((Pc.Ent.right _ _).trans ((Pc.Ent.right _ _).trans ((Pc.Ent.right _ _).trans (Pc.Ent.left _ _))))) ?_ ?_ ?_
      · intro l2 j y R4 V hyj hq
        have HYJ := Lib.hid hyj
        have HQ := Lib.hid hq
        obtain ⟨pq, sq⟩ := y
        have hjl : j < L.length := (List.getElem?_eq_some_iff.1 hyj).1
        clear hyj hq
        unfold encE
        simp only [Array.zip]
        gi_wp2_with fail
        refine ⟨KJ j, HQ.out, ?_⟩
        clear HQ
        intro r5 R5 V2 hq2
        rw [HKJ.out] at hq2
        have HQ := Lib.hid hq2
        obtain ⟨n0, n1⟩ := blk_one (hq2.blkOf ((Pc.Ent.left _ _).trans (Pc.Ent.left _ _)))
        obtain ⟨e0, e1, e2, e3, e4, e5, e6, e7⟩ := ea_cells hq2 ((Pc.Ent.left _ _).trans ((Pc.Ent.right _ _).trans ((Pc.Ent.left _ _).trans ((Pc.Ent.right _ _).trans (Pc.Ent.left _ _)))))
        obtain ⟨ga2, offa2, hga, a0⟩ := rd_atV (Rd.of_own e6) HYJ.out
        rw [hga] at e3
        clear e6 e7 hq2 hga
        have q1 : decide (L.length ≤ j) = false := by simp; omega
        have q2 := nat_ne_self pq
        gi_upto_region 30 with fail
        have hq3 := (HQ.out.ent (Pc.Ent.assoc _ _ _)).step (blk_turn (i := 0) (.int .i64 ((j : Int) + 1)))
        clear n0 n1 e0 e1 e2 e3 e4 e5 a0 q1 q2 HQ
        obtain ⟨n0, n1⟩ := blk_one (hq3.blkOf (Pc.Ent.left _ _))
        obtain ⟨e0, -, -, -, -, -, -, -⟩ := ea_cells hq3 ((Pc.Ent.right _ _).trans ((Pc.Ent.left _ _).trans ((Pc.Ent.left _ _).trans ((Pc.Ent.right _ _).trans (Pc.Ent.left _ _)))))
        have HQ3 : Hid (Post ((KJ (j + 1)).star ((Pc.blk l2 (.loop r5)).star R5)) w0 [] (V2.setCell ⟨bm2, 0, none⟩ (.int .i64 ((j : Int) + 1)))) := Lib.hid (by rw [HKJ.out, Int.natCast_add]; exact hq3.ent (Pc.Ent.assoc' _ _ _))
        clear hq3
        generalize V2.setCell ⟨bm2, 0, none⟩ (.int .i64 ((j : Int) + 1)) = V3 at *
        by_cases hm : (j : Int) + 1 = most
        · have q3 : ((j : Int) + 1 == most) = true := by simp [hm]
          have HM : Hid (((j + 1 : Nat) : Int) = most) := Lib.hid (by omega)
          clear hm
          gi_wp2_with fail
          exact HQ3.out.ent ((Pc.Ent.whenI ⟨rfl, HM.out⟩).mono (Pc.Ent.refl _))
        · have q3 : ((j : Int) + 1 == most) = false := by simp [hm]
          clear hm
          gi_wp2_with fail
          exact HQ3.out
      · intro V hq
        rw [HKJ.out] at hq
        have HQ := Lib.hid (hq.ent ((Pc.Ent.right _ _).trans (Pc.Ent.assoc' _ _ _)))
        clear hq
        gi_wp2_with fail
        exact HQ.out
      · intro c j V _ hq
        obtain ⟨⟨hc, -⟩, hq2⟩ := Post.whenE' hq
        subst hc
        rw [HKJ.out] at hq2
        have HQ := Lib.hid (hq2.ent ((Pc.Ent.right _ _).trans (Pc.Ent.assoc' _ _ _)))
        clear hq2 hq
        gi_wp2_with fail
        exact HQ.out
    · intro D2 W hp
      have HP := Lib.hid hp
      obtain ⟨n0, n1⟩ := blk_one (hp.blkOf ((Pc.Ent.left _ _).trans ((Pc.Ent.left _ _).trans (Pc.Ent.left _ _))))
      obtain ⟨-, e1, e2, -, e4, -, -, -⟩ := ea_cells hp ((Pc.Ent.left _ _).trans ((Pc.Ent.left _ _).trans ((Pc.Ent.right _ _).trans (Pc.Ent.left _ _))))
      have q1 : ((L.length : Int) == (L.length : Int)) = true := by simp
      clear hp
      gi_wp2_with fail
      clear n0 n1 e1 e2 e4 q1
      have hp3 := (HP.out.ent (ent_end _ _ _ _ _ _ _)).step (blk_turn (i := 0) (.bool true))
      generalize W.setCell ⟨br, 0, none⟩ (.bool true) = V4 at *
      have t1 := hp3.blkOf ((Pc.Ent.right _ _).trans (Pc.Ent.left _ _))
      have hp4 := (hp3.ent (Pc.Ent.swap _ _ _)).step (put_turn (o' := .deferred none))
      have t2 := hp4.blkOf ((Pc.Ent.right _ _).trans ((Pc.Ent.right _ _).trans (Pc.Ent.left _ _)))
      have hp5 := (hp4.ent (Pc.Ent.at3 _ _ _ _)).step (put_turn (o' := .deferred none))
      have t3 := hp5.blkOf ((Pc.Ent.right _ _).trans ((Pc.Ent.right _ _).trans (Pc.Ent.left _ _)))
      refine ⟨by simp, .inl ⟨_, _, rfl, run_takeDeferred t1, by simp, .inl ⟨_, _, rfl, run_takeDeferred t2, ?_⟩⟩⟩
      refine ⟨_, results_cell1 rfl _ _ rfl (blk_one t3).1, rfl, hp5.ent ((Pc.Ent.right _ _).trans ((Pc.Ent.right _ _).trans (Pc.Ent.right _ _)))⟩
    · intro D2 c k W _ hp
      exact (Post.whenE hp).1.elim
end Go.Proofs.YtnpokdbpmnkbjaaGreatDoor
