/- The Book as a whole; the step encode. | The steps decode, records. -/
import Derived.Test.YtnpokdbpmnkbjaaGreatDoorCa
import Derived.Test.YtnpokdbpmnkbjaaGreatDoorAw
import Derived.Test.YtnpokdbpmnkbjaaGreatDoorZg
import Derived.Test.YtnpokdbpmnkbjaaGreatDoorZf
import Derived.Test.YtnpokdbpmnkbjaaGreatDoorTb
namespace Go.Proofs.YtnpokdbpmnkbjaaGreatDoor
open Go.RowKit Me

def RbI (vb vc : Value) (I : List It) : Pc := (Pc.row 37 1 vb I.length (I.map It.v)).star ((Pc.row 37 1 vc I.length (I.map It.u)).star (items I))
def RsJ (vs vt : Value) (J : List Is) : Pc := (Pc.row 38 1 vs J.length (J.map Is.v)).star ((Pc.row 38 1 vt J.length (J.map Is.u)).star (itemsS J))
structure BkOk (n : Nat) (I : List It) (J : List Is) : Prop where
  i : I.length ≤ n
  j : J.length ≤ n
  bi : ∀ x ∈ I, x.bs.length ≤ 1000000000 + n
  bj : ∀ x ∈ J, x.L.length ≤ 1000000000 + n
/-- The Book: all lists that came out and their copies, row for row of like contents. -/
def BkQ (b n : Nat) : Pc := Pc.ex fun I : List It => Pc.ex fun J : List Is => Pc.when (BkOk n I J) (Pc.ex fun vb => Pc.ex fun vc => Pc.ex fun vs => Pc.ex fun vt => (BkC b vb vc vs vt).star ((RbI vb vc I).star (RsJ vs vt J)))
theorem Me.Pc.Ent.when {φ ψ : Prop} {p q : Pc} (h : φ → ψ) (k : φ → Pc.Ent p q) : Pc.Ent (Pc.when φ p) (Pc.when ψ q) := fun w F ⟨h1, h2⟩ => by
  obtain ⟨F', h3, h4⟩ := k h1 w F h2
  exact ⟨F', ⟨h h1, h3⟩, h4⟩
theorem ent_bt (C I J r K : Pc) : Pc.Ent (C.star (I.star (J.star (r.star K)))) ((r.star (C.star I)).star (J.star K)) :=
  (Pc.Ent.at4 C I J r K).trans (((Pc.Ent.refl r).mono (Pc.Ent.assoc' C I _)).trans (Pc.Ent.assoc' r _ _))
theorem ent_st (C I J r K : Pc) : Pc.Ent (C.star (I.star (J.star (r.star K)))) ((r.star (C.star J)).star (I.star K)) :=
  ((Pc.Ent.refl C).mono (Pc.Ent.swap I J _)).trans (ent_bt C J I r K)
theorem ent_st2 (C I J K : Pc) : Pc.Ent ((C.star J).star (I.star K)) (C.star (I.star (J.star K))) := (Pc.Ent.assoc C J _).trans ((Pc.Ent.refl C).mono (Pc.Ent.swap J I K))
theorem Me.Post.addRow {p : Pc} {w0 w w' : World} {F : List Nat} {e : TypeId} {size : Nat} {v : Value} {n : Nat} {xs : List Value} (h : Post p w0 F w) (hm : Mods [] w w') (ho : w'.ownsRow w.heap.size e size v n xs) : Post ((Pc.row e size v n xs).star p) w0 F w' :=
  h.add hm ⟨ownsRow_base ho (Nat.zero_le _), rfl⟩ (fun k hk => (ho.lt k (by simpa using hk)).1)
section
variable {w0 w : World} {F : List Nat} {b n : Nat} {R : Pc}
theorem BkQ.open (h : Post ((BkQ b n).star R) w0 F w) : ∃ I J vb vc vs vt, BkOk n I J ∧ Post ((BkC b vb vc vs vt).star ((RbI vb vc I).star ((RsJ vs vt J).star R))) w0 F w := by
  obtain ⟨F9, ⟨F1, F2, ⟨I, J, hok, vb, vc, vs, vt, h1⟩, h2, n1, rfl⟩, m1, m2⟩ := h
  have hp : Post (((BkC b vb vc vs vt).star ((RbI vb vc I).star (RsJ vs vt J))).star R) w0 F w := ⟨_, ⟨F1, F2, h1, h2, n1, rfl⟩, m1, m2⟩
  exact ⟨I, J, vb, vc, vs, vt, hok, hp.ent ((Pc.Ent.assoc _ _ _).trans ((Pc.Ent.refl _).mono (Pc.Ent.assoc _ _ _)))⟩
theorem BkQ.shut {I : List It} {J : List Is} {vb vc vs vt : Value} (hok : BkOk n I J) (h : Post ((BkC b vb vc vs vt).star ((RbI vb vc I).star ((RsJ vs vt J).star R))) w0 F w) : Post ((BkQ b n).star R) w0 F w := by
  obtain ⟨F9, ⟨F1, F2, h1, h2, n1, rfl⟩, m1, m2⟩ := h.ent (((Pc.Ent.refl _).mono (Pc.Ent.assoc' _ _ _)).trans (Pc.Ent.assoc' _ _ _))
  exact ⟨_, ⟨F1, F2, ⟨I, J, hok, vb, vc, vs, vt, h1⟩, h2, n1, rfl⟩, m1, m2⟩
/-- bytes, with all else about. -/
theorem BkQ.bytes {v vw : Value} {bs : List UInt8} (h : Post ((rowOf v bs).star ((BkQ b n).star R)) w0 F w) (hw : Rd w vw (bs.map byteV)) (hl : bs.length ≤ 1000000000) (hn : n ≤ 1000000000) :
    Calls Tryz.prog 24 #[.pointer (some ⟨b, 0, none⟩), v, vw] w fun e w' => e = .returned (.bool true) ∧ Post ((BkQ b (n + 1)).star R) w0 F w' := by
  obtain ⟨I, J, vb, vc, vs, vt, hok, hp⟩ := BkQ.open (h.ent (Pc.Ent.swap _ _ _))
  have h1 : Post (((rowOf v bs).star ((BkC b vb vc vs vt).star (RbI vb vc I))).star ((RsJ vs vt J).star R)) w0 F w := hp.ent (ent_bt _ _ _ _ _)
  have key : ∀ F1, ((rowOf v bs).star ((BkC b vb vc vs vt).star (RbI vb vc I))).A w F1 → Calls Tryz.prog 24 #[.pointer (some ⟨b, 0, none⟩), v, vw] w fun e w' => e = .returned (.bool true) ∧ Post (Pc.ex fun u => BkB b vs vt (I ++ [⟨v, u, bs⟩])) w F1 w' := fun F1 hF => by
    obtain ⟨F3, F4, g1, g2, g3, g4⟩ := hF
    exact bytes_any ⟨F3, F4, g1, ⟨vb, vc, g2⟩, g3, g4⟩ hw hl (by have := hok.i; omega)
  have hc := Post.call h1 key
  refine hc.mono ?_
  clear hc key h1 hp h
  · rintro e w' ⟨he, hh⟩
    obtain ⟨u, hu⟩ := Post.ex1 hh
    obtain ⟨vb2, hu2⟩ := Post.ex1 hu
    obtain ⟨vc2, hu3⟩ := Post.ex1 hu2
    refine ⟨he, BkQ.shut (I := I ++ [⟨v, u, bs⟩]) (J := J) (vb := vb2) (vc := vc2) (vs := vs) (vt := vt) ⟨by have := hok.i; simp; omega, by have := hok.j; omega, fun x hx => ?_, fun x hx => by have := hok.bj x hx; omega⟩ (hu3.ent (Pc.Ent.assoc _ _ _))⟩
    rcases List.mem_append.1 hx with hx | hx
    · have := hok.bi x hx
      omega
    · simp at hx
      subst hx
      show bs.length ≤ _
      omega
/-- stats, likewise. -/
theorem BkQ.stats {v vw : Value} {L : List StatP} (h : Post ((rowS v L).star ((BkQ b n).star R)) w0 F w) (hw : Sts w vw L) (hl : L.length ≤ 1000000000) (hn : n ≤ 1000000000) :
    Calls Tryz.prog 32 #[.pointer (some ⟨b, 0, none⟩), v, vw] w fun e w' => e = .returned (.bool true) ∧ Post ((BkQ b (n + 1)).star R) w0 F w' := by
  obtain ⟨I, J, vb, vc, vs, vt, hok, hp⟩ := BkQ.open (h.ent (Pc.Ent.swap _ _ _))
  have h1 : Post (((rowS v L).star ((BkC b vb vc vs vt).star (RsJ vs vt J))).star ((RbI vb vc I).star R)) w0 F w := hp.ent (ent_st _ _ _ _ _)
  have key : ∀ F1, ((rowS v L).star ((BkC b vb vc vs vt).star (RsJ vs vt J))).A w F1 → Calls Tryz.prog 32 #[.pointer (some ⟨b, 0, none⟩), v, vw] w fun e w' => e = .returned (.bool true) ∧ Post (Pc.ex fun u => BkS b vb vc (J ++ [⟨v, u, L⟩])) w F1 w' := fun F1 hF => by
    obtain ⟨F3, F4, g1, g2, g3, g4⟩ := hF
    exact stats_any ⟨F3, F4, g1, ⟨vs, vt, g2⟩, g3, g4⟩ hw hl (by have := hok.j; omega)
  have hc := Post.call h1 key
  refine hc.mono ?_
  clear hc key h1 hp h
  · rintro e w' ⟨he, hh⟩
    obtain ⟨u, hu⟩ := Post.ex1 hh
    obtain ⟨vs2, hu2⟩ := Post.ex1 hu
    obtain ⟨vt2, hu3⟩ := Post.ex1 hu2
    refine ⟨he, BkQ.shut (I := I) (J := J ++ [⟨v, u, L⟩]) (vb := vb) (vc := vc) (vs := vs2) (vt := vt2) ⟨by have := hok.i; omega, by have := hok.j; simp; omega, fun x hx => by have := hok.bi x hx; omega, fun x hx => ?_⟩ (hu3.ent (ent_st2 _ _ _ _))⟩
    rcases List.mem_append.1 hx with hx | hx
    · have := hok.bj x hx
      omega
    · simp at hx
      subst hx
      show L.length ≤ _
      omega
end
theorem ent_enc (u v x B R : Pc) : Pc.Ent (u.star (v.star (x.star (B.star R)))) (v.star (B.star (u.star (x.star R)))) :=
  (Pc.Ent.swap u v _).trans ((Pc.Ent.refl v).mono (Pc.Ent.at3 u x B R))
set_option maxRecDepth 100000 in
set_option maxHeartbeats 1000000 in
theorem kencode_any {w0 w : World} {b n : Nat} {R : Pc} (h : Post ((BkQ b n).star R) w0 [] w) (hn : n ≤ 1000000000) (hT : Lib.Utf8Tabs 0 1 w0) (s : StatP) (hs : s.Fits) (hz : s.size ≤ 268435456) :
    Calls Tryz.prog 9 #[.pointer (some ⟨b, 0, none⟩), .agg (statV s)] w fun e w' => e = .returned (.bool true) ∧ Post ((BkQ b (n + 1)).star R) w0 [] w' := by
  have hp0 := h.alloc (.cells (statV s) 35)
  have H0 := Lib.hid hp0
  have hb0 := hp0.blkOf (Pc.Ent.left _ _)
  obtain ⟨c0, c1, c2, c3, c4, c5, c6, c7, c8, c9, c10, c11, c12⟩ := stat_cells hb0
  have HSZ := Lib.hid (fun W => size_any s W (by omega))
  have HRS := Lib.hid (fun W => rsize_any s W (by omega))
  have HEN := Lib.hid (fun W hT => encode_any (w := W) hT s hs (by omega))
  have HRE := Lib.hid (fun W => rencode_any (w := W) s hs hz)
  have HEL : Hid (s.encode.1.length ≤ 1000000000) := Lib.hid (by
    unfold StatP.encode
    split
    · simp
    · rw [StatP.enc_length]; omega)
  generalize s.encode = E at *
  obtain ⟨eb, ee⟩ := E
  simp only at HEN HRE HEL
  have HT0 := Lib.hid hT
  clear h hp0 hT
  go_enter Tryz.func9, Tryz.ntmps9
  go_upto_region 1 with fail
  generalize hb : w.heap.size = bx at *
  generalize w.alloc (.cells (statV s) 35) = w1 at *
  go_wp2_with fail
  clear c0 c1 c2 c3 c4 c5 c6 c7 c8 c9 c10 c11 c12 hb0
  refine (HSZ.out _).mono ?_; rintro e w2 ⟨rfl, hm⟩
  have hp := H0.out.still hm
  have H2 := Lib.hid hp
  obtain ⟨c0, c1, c2, c3, c4, c5, c6, c7, c8, c9, c10, c11, c12⟩ := stat_cells (hp.blkOf (Pc.Ent.left _ _))
  clear hm hp
  go_wp2_with fail
  clear c0 c1 c2 c3 c4 c5 c6 c7 c8 c9 c10 c11 c12
  refine (HEN.out _ (tabs_mods H2.out.mods HT0.out)).mono ?_; rintro e w3 ⟨v, rfl, ho, hm⟩
  have hp := H2.out.addRow hm ho
  have H3 := Lib.hid hp
  obtain ⟨c0, c1, c2, c3, c4, c5, c6, c7, c8, c9, c10, c11, c12⟩ := stat_cells (hp.blkOf ((Pc.Ent.right _ _).trans (Pc.Ent.left _ _)))
  obtain ⟨Av, cv, rfl⟩ := own_ctor ho
  clear ho hm hp
  go_wp2_with fail
  clear c0 c1 c2 c3 c4 c5 c6 c7 c8 c9 c10 c11 c12
  refine (HRE.out _).mono ?_; rintro e w4 ⟨u, rfl, ho, hm⟩
  have hp := H3.out.addRow hm ho
  have H4 := Lib.hid hp
  obtain ⟨c0, c1, c2, c3, c4, c5, c6, c7, c8, c9, c10, c11, c12⟩ := stat_cells (hp.blkOf ((Pc.Ent.right _ _).trans ((Pc.Ent.right _ _).trans (Pc.Ent.left _ _))))
  obtain ⟨Au, cu, rfl⟩ := own_ctor ho
  clear ho hm hp
  go_wp2_with fail
  clear c0 c1 c2 c3 c4 c5 c6 c7 c8 c9 c10 c11 c12
  refine (HRS.out _).mono ?_; rintro e w5 ⟨rfl, hm⟩
  have hp := (H4.out.still hm).ent (ent_enc _ _ _ _ _)
  have HU := Lib.hid (Rd.of_own (hp.rowAt ((Pc.Ent.right _ _).trans ((Pc.Ent.right _ _).trans (Pc.Ent.left _ _)))))
  have HK := Lib.hid (BkQ.bytes hp HU.out HEL.out hn)
  have q1 := nat_ne_self s.size
  have q2 := nat_ne_self ee
  clear hm hp
  go_wp2_with fail
  refine HK.out.mono ?_; rintro e w6 ⟨rfl, hp⟩
  have H6 := Lib.hid (hp.ent ((Pc.Ent.refl _).mono ((Pc.Ent.right _ _).trans (Pc.Ent.right _ _))))
  clear hp
  go_wp2_with fail
  go_ret
  exact ⟨rfl, H6.out⟩
end Go.Proofs.YtnpokdbpmnkbjaaGreatDoor
namespace Go.Proofs.YtnpokdbpmnkbjaaGreatDoor
open Go.RowKit Me

theorem rd_markN {w : World} {g N : Nat} {l : List UInt8} (hN : l.length = N) (h : w.heap[g]? = some (.cells ((l ++ [201, 202, 203]).map byteV).toArray 5 (0, 0))) (hl : l.length ≤ 1000000000) : Rd w (.slice (some ⟨g, 0, none⟩) N (N + 3)) (l.map byteV) := by
  subst hN
  exact rd_mark h hl
theorem room_N {w : World} {g N : Nat} {vu : Value} (l : List UInt8) (hN : l.length = N) (hg : w.heap[g]? = some (.cells ((l ++ [201, 202, 203]).map byteV).toArray 5 (0, 0))) (hu : Rd w vu (l.map byteV)) (hl : l.length ≤ 1000000000) :
    Calls Tryz.prog 28 #[.slice (some ⟨g, 0, none⟩) N (N + 3), vu] w fun e w' => e = .returned (.bool true) ∧ w = w' := by
  subst hN
  exact room_any l hg hu hl
theorem overB_N {w0 w : World} {g N : Nat} {vc : Value} {F : List Nat} {K : Pc} (l c : List UInt8) (hN : l.length = N) (h : Post ((MarkP g l).star K) w0 F w) (hc : Rd w vc (c.map byteV)) (hn : c ≠ [] → vc.ownBlock ≠ some g) (hl : l.length ≤ 1000000000) :
    Calls Tryz.prog 29 #[.slice (some ⟨g, 0, none⟩) N (N + 3), vc] w fun e w' => e = .returned (.tuple #[]) ∧ Post ((MarkP g (over l c)).star K) w0 F w' := by
  subst hN
  have key : ∀ F1, (MarkP g l).A w F1 → Calls Tryz.prog 29 #[markV g l, vc] w fun e w' => e = .returned (.tuple #[]) ∧ Post (MarkP g (over l c)) w F1 w' := by
    rintro F1 ⟨h1, rfl⟩
    exact (overB_any l c h1 hc hn hl).mono fun _ _ hh => ⟨hh.1, [g], ⟨hh.2.1, rfl⟩, hh.2.2, fun _ hk => Or.inl hk⟩
  exact Post.call h key
theorem copied_P {w0 w : World} {vx : Value} {F : List Nat} {K : Pc} (l : List UInt8) (h : Post K w0 F w) (hx : Rd w vx (l.map byteV)) (hl : l.length ≤ 1000000000) :
    Calls Tryz.prog 25 #[vx] w fun e w' => ∃ g, e = .returned (.slice (some ⟨g, 0, none⟩) l.length (l.length + 3)) ∧ w0.heap.size ≤ g ∧ Post ((MarkP g l).star K) w0 F w' := by
  refine (copied_any l hx hl).mono ?_
  rintro e w' ⟨g, he, hg, hb, hm⟩
  exact ⟨g, he, Nat.le_trans h.mods.size hg, h.add (q := MarkP g l) (G := [g]) hm ⟨hb, rfl⟩ (by simpa using hg)⟩
/-- An argument: a slice of bytes that was there before. -/
structure ArgB (w0 : World) (v : Value) (l : List UInt8) : Prop where
  rd : Rd w0 v (l.map byteV)
  len : l.length ≤ 268435456
theorem ArgB.old {w0 : World} {v : Value} {l : List UInt8} (h : ArgB w0 v l) (hne : l ≠ []) : ∀ k, v.ownBlock = some k → k < w0.heap.size := by
  intro k hk
  obtain ⟨x, l', rfl⟩ := List.exists_cons_of_ne_nil hne
  obtain ⟨A, c, e, -, -, h3⟩ := h.rd
  obtain ⟨g, off, rfl, hc⟩ := h3 0 (byteV x) rfl
  rw [e] at hk
  simp only [Value.ownBlock, Option.some.injEq] at hk
  subst hk
  exact World.block_lt_of_cell? _ _ hc
theorem ArgB.at {w0 w : World} {v : Value} {l : List UInt8} {p : Pc} (h : ArgB w0 v l) (hp : Post p w0 [] w) : Rd w v (l.map byteV) := h.rd.mods hp.mods (by simp)
theorem over_le {l c : List UInt8} {N : Nat} (h : l.length = N) : (over l c).length = N := by rw [over_len, h]
theorem ent_dec (x y r m K : Pc) : Pc.Ent (x.star (y.star (r.star (m.star K)))) (m.star (x.star (y.star (r.star K)))) := Pc.Ent.at4 x y r m K
def RelDe (w0 : World) (b n g N : Nat) (R : Pc) (i : Value) (wr : World) : Prop :=
  ∃ (k : Nat) (l : List UInt8), k ≤ 2 ∧ i = .int .i64 (k : Int) ∧ l.length = N ∧ Post ((MarkP g l).star ((BkQ b n).star R)) w0 [] wr
set_option maxRecDepth 100000 in
set_option maxHeartbeats 1000000 in
theorem kdecode_any {w0 w : World} {b n : Nat} {R : Pc} {vb vc : Value} {B C : List UInt8} (h : Post ((BkQ b n).star R) w0 [] w) (hT : Lib.Utf8Tabs 0 1 w0) (hB : ArgB w0 vb B) (hC : ArgB w0 vc C) :
    Calls Tryz.prog 10 #[.pointer (some ⟨b, 0, none⟩), vb, vc] w fun e w' => e = .returned (.bool true) ∧ Post ((BkQ b n).star R) w0 [] w' := by
  have HCP := Lib.hid (copied_P B h (hB.at h) (by have := hB.len; omega))
  have HT := Lib.hid hT
  have HC := Lib.hid hC
  have hBl := hB.len
  obtain ⟨Ab, cb, rfl, -⟩ := rd_slice hB.rd
  obtain ⟨Ac, cc, rfl, -⟩ := rd_slice hC.rd
  clear hB hC hT h
  go_enter Tryz.func10, Tryz.ntmps10
  go_wp2_with fail
  refine HCP.out.mono ?_; rintro e w1 ⟨g, rfl, hg, hp⟩
  have H1 := Lib.hid hp
  have HCN : Hid (C ≠ [] → (Value.slice Ac C.length cc).ownBlock ≠ some g) := Lib.hid (fun hne e => by have := HC.out.old hne g e; omega)
  clear hp HCP
  have hN : B.length = B.length := rfl
  generalize hBN : B.length = N at *
  obtain ⟨i0, hi, hz0, hz1, hz2⟩ := info_parts info5
  go_wp2_with fail
  go_loopw [8] (fun i wr => RelDe w0 b n g N R i wr) (fun i _ => 2 - (intOf i).toNat)
  case atStart => exact ⟨0, B, by omega, rfl, hBN, H1.out⟩
  case round =>
    obtain ⟨k, l, hk, rfl, hln, hp⟩ := hrel
    have H2 := Lib.hid hp
    have hl9 : l.length ≤ 1000000000 := by omega
    have HLN := Lib.hid hln
    rcases Nat.lt_or_ge k 2 with hlt | hge
    · have HM2 := Lib.hid (fun W (hm : Mods [] wr W) => rd_markN hln ((H2.out.still hm).blkOf (Pc.Ent.left _ _)) hl9)
      clear hp
      go_wp2_with (at_builtin; go_must (refine wpList_app _ rfl _ _ 37 37 rfl wr.heap.size 5 i0 (.int .u8 0) 1 1 Tryz.underlying37 hi hz0 hz1 hz2 rfl (.slice none 0 0) 0 [] rfl (World.ownsRow_nil _ _ _ _) _ N (l.map byteV) rfl ?c1 ?c2 ?c3 ?c4 ?_))
      case c1 =>
        have h := (HM2.out wr (Mods.refl _ _)).src Tryz.underlying37 (bytes_one _)
        rw [List.length_map, hln] at h
        exact h
      case c2 => unfold maxLen; omega
      case c3 => omega
      case c4 => exact Nat.le_refl _
      intro va w3 hown hgrow hat
      have hm3 := (Mods.refl [] wr).grown hgrow (by simp [Value.ownBlock])
      have hp3 := H2.out.addRow (v := va) (n := N) (xs := l.map byteV) hm3 hown
      have H3 := Lib.hid hp3
      have HM3 := Lib.hid hm3
      have HW3 := Lib.hid (Rd.of_own hown)
      obtain ⟨Aw, cw, rfl⟩ := own_ctor hown
      have HD := Lib.hid (decode_any (w := w3) l (HM2.out w3 hm3) (by omega) (tabs_mods hp3.mods HT.out))
      have HE := Lib.hid (fun W (hw : Rd W (.slice Aw N cw) (l.map byteV)) => rdecode_any (w := W) l hw (by omega))
      simp only [decR_eq] at HE
      generalize decode l = D at HD HE
      obtain ⟨ds, de⟩ := D
      simp only at HD HE
      clear hown hgrow hat hm3 hp3
      go_wp2_with fail
      refine HD.out.mono ?_; rintro e w4 ⟨rfl, hm4⟩
      have hstore := run_store_new (P := Tryz.prog) w4 zeroV (statV ds) 35 rfl (statV_one ds)
      unfold zeroV at hstore
      have hp4 := (H3.out.still hm4).alloc (.cells (statV ds) 35)
      have H4 := Lib.hid hp4
      have hms4 := hm4.alloc (.cells (statV ds) 35)
      have HM4 := Lib.hid (HM3.out.trans hms4 (by simp))
      have HE4 := Lib.hid (HE.out _ (HW3.out.mods hms4 (by simp)))
      have HW4 := Lib.hid (HW3.out.mods hms4 (by simp))
      clear hm4 hp4 hms4
      go_wp2_with fail
      clear hstore
      generalize w4.alloc (.cells (statV ds) 35) = w5 at *
      generalize w4.heap.size = b4 at *
      refine HE4.out.mono ?_; rintro e w6 ⟨rfl, hm6⟩
      have hstore := run_store_new (P := Tryz.prog) w6 zeroV (statV ds) 35 rfl (statV_one ds)
      unfold zeroV at hstore
      have hp6 := (H4.out.still hm6).alloc (.cells (statV ds) 35)
      have H6 := Lib.hid hp6
      have hms6 := hm6.alloc (.cells (statV ds) 35)
      have HR6 := Lib.hid (room_N l HLN.out (by exact (hp6.blkOf ((Pc.Ent.right _ _).trans ((Pc.Ent.right _ _).trans ((Pc.Ent.right _ _).trans (Pc.Ent.left _ _)))))) (HW4.out.mods hms6 (by simp)) hl9)
      clear hm6 hp6 hms6
      go_wp2_with fail
      clear hstore
      generalize w6.alloc (.cells (statV ds) 35) = w7 at *
      generalize w6.heap.size = b6 at *
      refine HR6.out.mono ?_; rintro e w8 ⟨rfl, rfl⟩
      obtain ⟨c0, c1, c2, c3, c4, c5, c6, c7, c8, c9, c10, c11, c12⟩ := stat_cells (H6.out.blkOf (Pc.Ent.left _ _))
      obtain ⟨d0, d1, d2, d3, d4, d5, d6, d7, d8, d9, d10, d11, d12⟩ := stat_cells (H6.out.blkOf ((Pc.Ent.right _ _).trans (Pc.Ent.left _ _)))
      have q2 := nat_ne_self de
      have HV := Lib.hid (overB_N l C HLN.out (H6.out.ent (ent_dec _ _ _ _ _)) (HC.out.at H6.out) HCN.out hl9)
      go_wp2_with fail
      clear c0 c1 c2 c3 c4 c5 c6 c7 c8 c9 c10 c11 c12 d0 d1 d2 d3 d4 d5 d6 d7 d8 d9 d10 d11 d12
      refine HV.out.mono ?_; rintro e w9 ⟨rfl, hp9⟩
      have HR : Hid (RelDe w0 b n g N R (.int .i64 ((k : Int) + 1)) w9) := Lib.hid ⟨k + 1, over l C, by omega, rfl, over_le hln, hp9.ent ((Pc.Ent.refl _).mono ((Pc.Ent.right _ _).trans ((Pc.Ent.right _ _).trans (Pc.Ent.right _ _))))⟩
      clear hp9
      go_wp2_with fail
      exact ⟨HR.out, by simp only [intOf]; omega⟩
    · obtain rfl : k = 2 := by omega
      have H9 := Lib.hid (hp.ent (Pc.Ent.right _ _))
      clear hp
      go_wp2_with fail
      go_ret
      exact ⟨rfl, H9.out⟩
theorem Me.Post.addP {p q : Pc} {w0 w w' : World} {F : List Nat} (h : Post p w0 F w) (k : Post q w [] w') : Post (q.star p) w0 F w' := by
  obtain ⟨G, g1, g2, g3⟩ := k
  exact h.add g2 g1 (fun k hk => (g3 k hk).elim (fun h => by cases h) id)
theorem ent_flat (v : Value) (Q : List (Nat × StatP)) : Pc.Ent (Pc.row 35 13 v Q.length (flatS Q)) (rowS v (Q.map Prod.snd)) := by
  unfold rowS
  rw [List.length_map, show flatT (Q.map Prod.snd) = flatS Q by simp [flatT, flatS, List.flatMap_map]]
  exact Pc.Ent.refl _
theorem records_len (l : List UInt8) : (records l).1.length ≤ l.length + 1 := by
  unfold records
  split
  · exact recsF_len ((RSt.new l).bytes.length + 1) (RSt.new l)
  · simp
theorem ent_rec (s r m B R : Pc) : Pc.Ent (s.star (r.star (m.star (B.star R)))) (s.star (B.star (m.star R))) :=
  (Pc.Ent.refl s).mono ((Pc.Ent.right r _).trans (Pc.Ent.swap m B R))
theorem ent_rec2 (B m R : Pc) : Pc.Ent (B.star (m.star R)) (m.star (B.star R)) := Pc.Ent.swap B m R
def RelRe (w0 : World) (b n g N : Nat) (R : Pc) (i : Value) (wr : World) : Prop :=
  ∃ (k : Nat) (l : List UInt8), k ≤ 2 ∧ i = .int .i64 (k : Int) ∧ l.length = N ∧ Post ((MarkP g l).star ((BkQ b (n + k)).star R)) w0 [] wr
set_option maxRecDepth 100000 in
set_option maxHeartbeats 1000000 in
theorem krecords_any {w0 w : World} {b n : Nat} {R : Pc} {vb vc : Value} {B C : List UInt8} (h : Post ((BkQ b n).star R) w0 [] w) (hnn : n ≤ 999999000) (hT : Lib.Utf8Tabs 0 1 w0) (hB : ArgB w0 vb B) (hC : ArgB w0 vc C) :
    Calls Tryz.prog 11 #[.pointer (some ⟨b, 0, none⟩), vb, vc] w fun e w' => e = .returned (.bool true) ∧ Post ((BkQ b (n + 2)).star R) w0 [] w' := by
  have HCP := Lib.hid (copied_P B h (hB.at h) (by have := hB.len; omega))
  have HT := Lib.hid hT
  have HC := Lib.hid hC
  have hBl := hB.len
  obtain ⟨Ab, cb, rfl, -⟩ := rd_slice hB.rd
  obtain ⟨Ac, cc, rfl, -⟩ := rd_slice hC.rd
  clear hB hC hT h
  go_enter Tryz.func11, Tryz.ntmps11
  go_wp2_with fail
  refine HCP.out.mono ?_; rintro e w1 ⟨g, rfl, hg, hp⟩
  have H1 := Lib.hid hp
  have HCN : Hid (C ≠ [] → (Value.slice Ac C.length cc).ownBlock ≠ some g) := Lib.hid (fun hne e => by have := HC.out.old hne g e; omega)
  clear hp HCP
  have hN : B.length = B.length := rfl
  generalize hBN : B.length = N at *
  obtain ⟨i0, hi, hz0, hz1, hz2⟩ := info_parts info5
  go_wp2_with fail
  go_loopw [8] (fun i wr => RelRe w0 b n g N R i wr) (fun i _ => 2 - (intOf i).toNat)
  case atStart => exact ⟨0, B, by omega, rfl, hBN, H1.out⟩
  case round =>
    obtain ⟨k, l, hk, rfl, hln, hp⟩ := hrel
    have H2 := Lib.hid hp
    have hl9 : l.length ≤ 1000000000 := by omega
    have HLN := Lib.hid hln
    rcases Nat.lt_or_ge k 2 with hlt | hge
    · have HM2 := Lib.hid (fun W (hm : Mods [] wr W) => rd_markN hln ((H2.out.still hm).blkOf (Pc.Ent.left _ _)) hl9)
      clear hp
      go_wp2_with (at_builtin; go_must (refine wpList_app _ rfl _ _ 37 37 rfl wr.heap.size 5 i0 (.int .u8 0) 1 1 Tryz.underlying37 hi hz0 hz1 hz2 rfl (.slice none 0 0) 0 [] rfl (World.ownsRow_nil _ _ _ _) _ N (l.map byteV) rfl ?c1 ?c2 ?c3 ?c4 ?_))
      case c1 =>
        have h := (HM2.out wr (Mods.refl _ _)).src Tryz.underlying37 (bytes_one _)
        rw [List.length_map, hln] at h
        exact h
      case c2 => unfold maxLen; omega
      case c3 => omega
      case c4 => exact Nat.le_refl _
      intro va w3 hown hgrow hat
      have hm3 := (Mods.refl [] wr).grown hgrow (by simp [Value.ownBlock])
      have hp3 := H2.out.addRow (v := va) (n := N) (xs := l.map byteV) hm3 hown
      have H3 := Lib.hid hp3
      have HM3 := Lib.hid hm3
      have HW3 := Lib.hid (Rd.of_own hown)
      obtain ⟨Aw, cw, rfl⟩ := own_ctor hown
      have HD := Lib.hid (records_any (w := w3) l (HM2.out w3 hm3) (by omega) (tabs_mods hp3.mods HT.out))
      have HE := Lib.hid (fun W (hw : Rd W (.slice Aw N cw) (l.map byteV)) => rrecords_any (w := W) l hw (by omega))
      have hlen := records_len l
      unfold RecPost at HD
      unfold RrPost at HE
      generalize records l = D at HD HE hlen
      obtain ⟨Q, de⟩ := D
      simp only at HD HE hlen
      clear hown hgrow hat hm3 hp3
      go_wp2_with fail
      refine HD.out.mono ?_; rintro e w4 ⟨v4, rfl, hq4⟩
      have hms4 : Mods [] w3 w4 := hq4.mods
      have hp4 := H3.out.addP (hq4.ent (ent_flat v4 Q))
      have H4 := Lib.hid hp4
      have HM4 := Lib.hid (HM3.out.trans hms4 (by simp))
      have HE4 := Lib.hid (HE.out _ (HW3.out.mods hms4 (by simp)))
      have HW4 := Lib.hid (HW3.out.mods hms4 (by simp))
      have hrow := hp4.rowAt (Pc.Ent.left _ _)
      rw [List.length_map] at hrow
      obtain ⟨A4, c4, rfl⟩ := own_ctor hrow
      clear hp4 hms4 hq4 hrow
      go_wp2_with fail
      refine HE4.out.mono ?_; rintro e w6 ⟨v6, rfl, ho6, hm6⟩
      have hp6 := (H4.out.still hm6).ent (Pc.Ent.refl _)
      have H6 := Lib.hid hp6
      have HS6 := Lib.hid (sts_of_flatS ho6)
      have HR6 := Lib.hid (room_N l HLN.out (by exact (hp6.blkOf ((Pc.Ent.right _ _).trans ((Pc.Ent.right _ _).trans (Pc.Ent.left _ _))))) (HW4.out.mods hm6 (by simp)) hl9)
      obtain ⟨A6, c6, rfl⟩ := own_ctor ho6
      clear hm6 hp6 ho6
      go_wp2_with fail
      refine HR6.out.mono ?_; rintro e w8 ⟨rfl, rfl⟩
      have HBK := Lib.hid (BkQ.stats (H6.out.ent (ent_rec _ _ _ _ _)) HS6.out (by simp; omega) (by omega))
      go_wp2_with fail
      refine HBK.out.mono ?_; rintro e w8 ⟨rfl, hp8⟩
      have H8 := Lib.hid (hp8.ent (ent_rec2 _ _ _))
      have q2 := nat_ne_self de
      have HV := Lib.hid (overB_N l C HLN.out H8.out (HC.out.at H8.out) HCN.out hl9)
      clear hp8
      go_wp2_with fail
      refine HV.out.mono ?_; rintro e w9 ⟨rfl, hp9⟩
      have HR : Hid (RelRe w0 b n g N R (.int .i64 ((k : Int) + 1)) w9) := Lib.hid ⟨k + 1, over l C, by omega, rfl, over_le hln, hp9⟩
      clear hp9
      go_wp2_with fail
      exact ⟨HR.out, by simp only [intOf]; omega⟩
    · obtain rfl : k = 2 := by omega
      have H9 := Lib.hid (hp.ent (Pc.Ent.right _ _))
      clear hp
      go_wp2_with fail
      go_ret
      exact ⟨rfl, H9.out⟩
end Go.Proofs.YtnpokdbpmnkbjaaGreatDoor
