/- The Book's changes; sameChanges. | The law's step decode. | The law's step diff. | The law's weight, exactly; a script in memory; beyond. | The law's step. -/
import Derived.Test.YtmcekhgmmocajaaGreatDoorBg
import Derived.Laws.StructEq
import Derived.Test.YtmcekhgmmocajaaGreatDoorRw2
import Derived.Test.YtmcekhgmmocajaaGreatDoorRdj
import Derived.Test.YtmcekhgmmocajaaGreatDoorSb
namespace Go.Proofs.YtmcekhgmmocajaaGreatDoor
open Go.RowKit Me

/-- A change's cells. -/
def chC (x : ByteArray × Bool × Bool) : List Value := [.string x.1, .bool x.2.1, .bool x.2.2]
theorem chC_at : ∀ (X : List (ByteArray × Bool × Bool)) (i j : Nat) (x : ByteArray × Bool × Bool), X[i]? = some x → j < 3 → (X.flatMap chC)[i * 3 + j]? = (chC x)[j]?
  | [], i, j, x, h, _ => by simp at h
  | y :: X, 0, j, x, h, hj => by
    simp at h
    subst h
    rw [List.flatMap_cons, List.getElem?_append_left (by simp [chC]; omega)]
    simp
  | y :: X, i + 1, j, x, h, hj => by
    rw [List.flatMap_cons, List.getElem?_append_right (by simp [chC]; omega)]
    have e : (i + 1) * 3 + j - (chC y).length = i * 3 + j := by simp [chC]; omega
    rw [e]
    exact chC_at X i j x (by simpa using h) hj
theorem ch_cells {w : World} {A : Option Addr} {c : Nat} {X : List (ByteArray × Bool × Bool)} (h : w.ownsRow 0 54 3 (.slice A X.length c) X.length (X.flatMap chC)) {k : Nat} {x : ByteArray × Bool × Bool} (hx : X[k]? = some x) :
    ∃ g, A = some ⟨g, 0, none⟩ ∧ w.cell? ⟨g, k * 3, none⟩ = some (.string x.1) ∧ w.cell? ⟨g, k * 3 + 1, none⟩ = some (.bool x.2.1) ∧ w.cell? ⟨g, k * 3 + 2, none⟩ = some (.bool x.2.2) := by
  rcases h.2 with ⟨he, h0⟩ | ⟨g, cap, cur, he, -⟩
  · have := (List.getElem?_eq_some_iff.1 hx).1
    omega
  · have e := (Value.slice.inj he).1
    subst e
    have hc := h.cells (g := g) rfl
    have hl := (List.getElem?_eq_some_iff.1 hx).1
    refine ⟨g, rfl, ?_, ?_, ?_⟩
    · have := hc (k * 3 + 0) (.string x.1) (by rw [chC_at X k 0 x hx (by omega)]; rfl)
      rwa [Addr.add_lit, Nat.zero_add] at this
    · have := hc (k * 3 + 1) (.bool x.2.1) (by rw [chC_at X k 1 x hx (by omega)]; rfl)
      rwa [Addr.add_lit, Nat.zero_add] at this
    · have := hc (k * 3 + 2) (.bool x.2.2) (by rw [chC_at X k 2 x hx (by omega)]; rfl)
      rwa [Addr.add_lit, Nat.zero_add] at this
def RelCh (w : World) (n : Nat) (i : Value) (wr : World) : Prop := ∃ k q : Nat, k ≤ n ∧ i = .int .i64 (k : Int) ∧ w.drewN q = wr
set_option maxRecDepth 100000 in
set_option maxHeartbeats 2000000 in
theorem samech_any {w : World} (X : List (ByteArray × Bool × Bool)) {v u : Value} (h1 : w.ownsRow 0 54 3 v X.length (X.flatMap chC)) (h2 : w.ownsRow 0 54 3 u X.length (X.flatMap chC)) (hl : X.length ≤ 1000000000000) :
    Calls Tryz.prog 106 #[v, u] w fun e w' => e = .returned (.bool true) ∧ ∃ q, w.drewN q = w' := by
  have H1 := Lib.hid (fun q => ownsRow_mods (w' := w.drewN q) h1 ((Mods.refl [] w).drewN q) (by simp))
  have H2 := Lib.hid (fun q => ownsRow_mods (w' := w.drewN q) h2 ((Mods.refl [] w).drewN q) (by simp))
  obtain ⟨A, c, rfl⟩ := own_ctor h1
  obtain ⟨B, d, rfl⟩ := own_ctor h2
  clear h1 h2
  go_enter Tryz.func106, Tryz.ntmps106
  go_wp2_with fail
  go_loopw [5] (fun i wr => RelCh w X.length i wr) (fun i _ => X.length - (intOf i).toNat)
  case atStart => exact ⟨0, 0, by omega, rfl, rfl⟩
  case round =>
    obtain ⟨k, q, hk, rfl, hq⟩ := hrel
    have HQ := Lib.hid hq
    have h1 := H1.out q
    have h2 := H2.out q
    rw [hq] at h1 h2
    clear hq
    rcases Nat.lt_or_ge k X.length with hlt | hge
    · obtain ⟨x, hx⟩ : ∃ x, X[k]? = some x := ⟨_, List.getElem?_eq_getElem hlt⟩
      obtain ⟨g, rfl, a0, a1, a2⟩ := ch_cells h1 hx
      obtain ⟨g2, rfl, b0, b1, b2⟩ := ch_cells h2 hx
      clear hx h1 h2
      go_wp2_with fail
      go_quiet (fail)
      go_wp2_with fail
      exact ⟨⟨k + 1, q + nq, by omega, rfl, by rw [← World.drewN_drewN, HQ.out]⟩, by simp only [intOf]; omega⟩
    · obtain rfl : k = X.length := by omega
      go_wp2_with fail
      go_ret
      exact ⟨rfl, q, HQ.out⟩
set_option maxRecDepth 100000 in
set_option maxHeartbeats 1000000 in
theorem changes_any {w : World} {b : Nat} {vb vc ve vd v vw : Value} {D : List Rg} {X : List (ByteArray × Bool × Bool)} {F : List Nat}
    (h : ((Pc.row 54 3 v X.length (X.flatMap chC)).star ((Pc.row 54 3 vw X.length (X.flatMap chC)).star ((BkC b vb vc ve vd).star (RgJ 49 54 3 vd D)))).A w F) (hl : X.length ≤ 1000000000) (hD : D.length ≤ 1000000000) :
    Calls Tryz.prog 78 #[.pointer (some ⟨b, 0, none⟩), v, vw] w fun e w' => e = .returned (.bool true) ∧ Post (Pc.ex fun vd' => (Pc.row 54 3 vw X.length (X.flatMap chC)).star ((BkC b vb vc ve vd').star (RgJ 49 54 3 vd' (D ++ [(⟨v, X.length, X.flatMap chC⟩ : Rg)])))) w F w' := by
  have hp := (Post.start h).ent (Pc.perm [Pc.row 54 3 v X.length (X.flatMap chC), Pc.row 54 3 vw X.length (X.flatMap chC), BkC b vb vc ve vd, Pc.row 49 1 vd D.length (D.map Rg.v), rgs 54 3 D] [2, 3, 0, 1, 4] (n := 5) (by decide))
  have H0 : Hid (Post ((BkC b vb vc ve vd).star ((Pc.row 49 1 vd D.length (D.map Rg.v)).star ((Pc.row 54 3 v X.length (X.flatMap chC)).star ((Pc.row 54 3 vw X.length (X.flatMap chC)).star (rgs 54 3 D))))) w F w) := Lib.hid hp
  obtain ⟨-, -, -, c0, -, -, -, f0⟩ := bcell4 (H0.out.blkOf (Pc.Ent.left _ _))
  have hf := H0.out.rowAt ((Pc.Ent.right _ _).trans (Pc.Ent.left _ _))
  have hv := H0.out.rowAt ((Pc.Ent.right _ _).trans ((Pc.Ent.right _ _).trans (Pc.Ent.left _ _)))
  have hw := H0.out.rowAt ((Pc.Ent.right _ _).trans ((Pc.Ent.right _ _).trans ((Pc.Ent.right _ _).trans (Pc.Ent.left _ _))))
  obtain ⟨Aw, cw, rfl⟩ := own_ctor hw
  obtain ⟨Av, cv, rfl⟩ := own_ctor hv
  obtain ⟨Af, cf, rfl⟩ := own_ctor hf
  have HF := Lib.hid hf
  clear h hp hv hf hw
  obtain ⟨i1, hj, hy0, hy1, hy2⟩ := info_parts info49
  go_enter Tryz.func78, Tryz.ntmps78
  go_wp2_with (first | (at_builtin; go_must (refine wpList_app _ rfl _ _ 39 39 rfl 0 49 i1 (.slice none 0 0) 1 24 Tryz.underlying39 hj hy0 hy1 hy2 rfl _ _ _ rfl (HF.out.alloc _) _ 1 [.slice Av X.length cv] rfl ?c1 ?c2 ?c3 ?c4 ?_)))
  case c1 => exact src_one Tryz.underlying39 _ _ _ rfl
  case c2 => unfold maxLen; omega
  case c3 => omega
  case c4 => exact Nat.zero_le _
  intro v2 w2 hown hgrow hat
  have hp2 := ((H0.out.ent (Pc.Ent.swap _ _ _)).step (row_turn hown hgrow (by simpa using hat))).ent (Pc.Ent.swap _ _ _)
  obtain ⟨-, -, -, d0, -, -, -, g0⟩ := bcell4 (hp2.blkOf (Pc.Ent.left _ _))
  obtain ⟨A2, c2, rfl⟩ := own_ctor hown
  have hp3 := hp2.step (blk_turn (i := 3) (.slice A2 (D.length + 1) c2))
  have H3 : Hid (Post ((BkC b vb vc ve (.slice A2 (D.length + 1) c2)).star _) w F (w2.setCell ⟨b, 3, none⟩ (.slice A2 (D.length + 1) c2))) := Lib.hid hp3
  have HS := Lib.hid (samech_any X (hp3.rowAt ((Pc.Ent.right _ _).trans ((Pc.Ent.right _ _).trans (Pc.Ent.left _ _)))) (hp3.rowAt ((Pc.Ent.right _ _).trans ((Pc.Ent.right _ _).trans ((Pc.Ent.right _ _).trans (Pc.Ent.left _ _))))) (by omega))
  clear hown hgrow hat hp2 hp3 c0 f0 HF
  go_wp2_with fail
  clear d0 g0
  generalize w2.setCell ⟨b, 3, none⟩ (.slice A2 (D.length + 1) c2) = w3 at *
  refine HS.out.mono ?_; rintro e w4 ⟨rfl, q, rfl⟩
  have hp4 := H3.out.still (w' := w3.drewN q) ((Mods.refl [] w3).drewN q)
  have hp5 : Post (Pc.ex fun vd' => (Pc.row 54 3 (.slice Aw X.length cw) X.length (X.flatMap chC)).star ((BkC b vb vc ve vd').star (RgJ 49 54 3 vd' (D ++ [⟨.slice Av X.length cv, X.length, X.flatMap chC⟩])))) w F (w3.drewN q) :=
    hp4.ent ((Pc.perm [_, _, _, _, _] [3, 0, 1, 2, 4] (n := 5) (by decide)).trans (Pc.Ent.to (.slice A2 (D.length + 1) c2) ((Pc.Ent.refl _).mono ((Pc.Ent.refl _).mono (by
      unfold RgJ
      simp only [List.length_append, List.length_cons, List.length_nil, Nat.zero_add, List.map_append, List.map_cons, List.map_nil]
      exact (Pc.Ent.refl _).mono (rgs_snoc D ⟨.slice Av X.length cv, X.length, X.flatMap chC⟩))))))
  have H5 := Lib.hid hp5
  clear hp4 hp5 H3 H0 HS
  go_wp2_with fail
  go_ret
  exact ⟨rfl, H5.out⟩
section
variable {w0 w : World} {F : List Nat} {b i j B : Nat} {R : Pc}
/-- changes, with all else about. -/
theorem BkN.changes {v vw : Value} {X : List (ByteArray × Bool × Bool)} (h : Post ((Pc.row 54 3 v X.length (X.flatMap chC)).star ((Pc.row 54 3 vw X.length (X.flatMap chC)).star ((BkN b i j B).star R))) w0 F w) (hl : X.length ≤ B) (hB : B ≤ 1000000000) (hj : j ≤ 1000000000) :
    Calls Tryz.prog 78 #[.pointer (some ⟨b, 0, none⟩), v, vw] w fun e w' => e = .returned (.bool true) ∧ Post ((Pc.row 54 3 vw X.length (X.flatMap chC)).star ((BkN b i (j + 1) B).star R)) w0 F w' := by
  obtain ⟨I, J, D, vb, vc, ve, vd, hok, hp⟩ := BkN.open (h.ent (Pc.Ent.at3 _ _ _ _))
  have h1 : Post (((Pc.row 54 3 v X.length (X.flatMap chC)).star ((Pc.row 54 3 vw X.length (X.flatMap chC)).star ((BkC b vb vc ve vd).star (RgJ 49 54 3 vd D)))).star ((RbI vb vc I).star ((RgJ 23 47 5 ve J).star R))) w0 F w :=
    hp.ent ((Pc.perm [BkC b vb vc ve vd, RbI vb vc I, RgJ 23 47 5 ve J, RgJ 49 54 3 vd D, Pc.row 54 3 v X.length (X.flatMap chC), Pc.row 54 3 vw X.length (X.flatMap chC), R] [4, 5, 0, 3, 1, 2, 6] (n := 7) (by decide)).trans
      ((((Pc.Ent.refl _).mono ((Pc.Ent.refl _).mono (Pc.Ent.assoc' _ _ _))).trans ((Pc.Ent.refl _).mono (Pc.Ent.assoc' _ _ _))).trans (Pc.Ent.assoc' _ _ _)))
  refine (Post.call h1 fun F1 hF => changes_any hF (by omega) (by have := hok.ld; omega)).mono ?_
  rintro e w' ⟨he, F1, ⟨F2, F3, ⟨vd2, h2⟩, h3, h4, rfl⟩, h5, h6⟩
  have hp2 : Post (((Pc.row 54 3 vw X.length (X.flatMap chC)).star ((BkC b vb vc ve vd2).star (RgJ 49 54 3 vd2 (D ++ [(⟨v, X.length, X.flatMap chC⟩ : Rg)])))).star ((RbI vb vc I).star ((RgJ 23 47 5 ve J).star R))) w0 F w' := ⟨_, ⟨F2, F3, h2, h3, h4, rfl⟩, h5, h6⟩
  have hp3 : Post (BkO b vb vc ve vd2 I J (D ++ [(⟨v, X.length, X.flatMap chC⟩ : Rg)]) ((Pc.row 54 3 vw X.length (X.flatMap chC)).star R)) w0 F w' :=
    hp2.ent (((Pc.Ent.assoc _ _ _).trans ((Pc.Ent.refl _).mono (Pc.Ent.assoc _ _ _))).trans (Pc.perm [Pc.row 54 3 vw X.length (X.flatMap chC), BkC b vb vc ve vd2, RgJ 49 54 3 vd2 (D ++ [(⟨v, X.length, X.flatMap chC⟩ : Rg)]), RbI vb vc I, RgJ 23 47 5 ve J, R] [1, 3, 4, 2, 0, 5] (n := 6) (by decide)))
  refine ⟨he, (BkN.shut ⟨hok.li, by have := hok.lj; omega, by have := hok.ld; simp; omega, hok.bi, hok.bj, fun x hx => ?_⟩ hp3).ent (Pc.Ent.swap _ _ _)⟩
  rcases List.mem_append.1 hx with hx | hx
  · exact hok.bd x hx
  · simp at hx
    subst hx
    exact hl
end
end Go.Proofs.YtmcekhgmmocajaaGreatDoor
namespace Go.Proofs.YtmcekhgmmocajaaGreatDoor
open Go.RowKit Me Go.BigFrame

/-- Bytes that were handed in: they read so as long as R stands. -/
structure ArgR (R : Pc) (w0 : World) (v : Value) (l : List UInt8) : Prop where
  rd : ∀ W, Post R w0 [] W → Rd W v (l.map byteV)
  len : l.length ≤ 100000000
theorem ArgB.argR {R : Pc} {w0 : World} {v : Value} {l : List UInt8} (h : ArgB w0 v l) : ArgR R w0 v l := ⟨fun _ hp => h.at hp, h.len⟩
theorem ArgR.more {R Q : Pc} {w0 : World} {v : Value} {l : List UInt8} (h : ArgR R w0 v l) : ArgR (Q.star R) w0 v l := ⟨fun W hp => h.rd W (hp.ent (Pc.Ent.right _ _)), h.len⟩
theorem decP_small {b : List UInt8} (hb : b.length ≤ 100000000) : (∀ e ∈ (decP b).1, Small e) ∧ 16 * (decP b).1.length ≤ b.length := by
  rw [← decR_eq hb]
  unfold decR
  split
  · exact ⟨by simp, by simp⟩
  · rename_i h19
    split
    · exact ⟨by simp, by simp⟩
    · rename_i L hL
      split
      · exact decR_small hb hL (by simp) (by omega) (by simp)
      · exact ⟨by simp, by simp⟩
theorem blks_mem {V : List Value} {k : Nat} (h : k ∈ blksV V) : ∃ (i : Nat) (u : Value), V[i]? = some u ∧ u.ownBlock = some k := by
  unfold blksV at h
  obtain ⟨u, hu, hk⟩ := List.mem_flatMap.1 h
  obtain ⟨i, hi⟩ := List.mem_iff_getElem?.1 hu
  exact ⟨i, u, hi, by simpa using hk⟩
theorem dats_A {w : World} : ∀ (L : List EntP) (V : List Value), V.length = L.length → (∀ (i : Nat) (e : EntP) (vd : Value), L[i]? = some e → V[i]? = some vd → w.ownsRow 0 5 1 vd e.data.length (e.data.map byteV)) → (blksV V).Nodup → (dats L V).A w (blksV V)
  | [], [], _, _, _ => rfl
  | [], v :: V, h, _, _ => by simp at h
  | e :: L, [], h, _, _ => by simp at h
  | e :: L, v :: V, h, hd, hn => by
    have hs : blksV (v :: V) = v.ownBlock.toList ++ blksV V := by simp [blksV]
    rw [hs] at hn ⊢
    obtain ⟨-, n2, n3⟩ := List.nodup_append.1 hn
    exact ⟨v.ownBlock.toList, blksV V, ⟨hd 0 e v rfl rfl, rfl⟩, dats_A L V (by simpa using h) (fun i e' vd he hv => hd (i + 1) e' vd (by simpa using he) (by simpa using hv)) n2, fun k hk hk' => n3 k hk k hk' rfl, rfl⟩
/-- Entries that a call has made, as a piece. -/
theorem ents_post {w w' : World} {v : Value} {L : List EntP} (h : EntO w.heap.size w' v L) (hm : Mods [] w w') : ∃ V : List Value, V.length = L.length ∧ Post (EntS v L V) w [] w' := by
  obtain ⟨V, hV, hr, hd, hn⟩ := h
  have hat : ∀ k ∈ blksV V, ∃ (e : EntP) (u : Value), w'.ownsRow w.heap.size 5 1 u e.data.length (e.data.map byteV) ∧ u.ownBlock = some k := fun k hk => by
    obtain ⟨i, u, hu, hk⟩ := blks_mem hk
    obtain ⟨e, he⟩ : ∃ e, L[i]? = some e := ⟨_, List.getElem?_eq_getElem (by have := (List.getElem?_eq_some_iff.1 hu).1; omega)⟩
    exact ⟨e, u, hd i e u he hu, hk⟩
  refine ⟨V, hV, v.ownBlock.toList ++ blksV V, ⟨v.ownBlock.toList, blksV V, ⟨ownsRow_base hr (Nat.zero_le _), rfl⟩, dats_A L V hV (fun i e vd he hv => ownsRow_base (hd i e vd he hv) (Nat.zero_le _)) hn, fun k hk hk' => ?_, rfl⟩, hm, fun k hk => ?_⟩
  · obtain ⟨e, u, h1, h2⟩ := hat k hk'
    exact ownsRow_kind hr h1 (by decide) k (by simpa using hk) h2
  · rcases List.mem_append.1 hk with hk | hk
    · exact Or.inr (hr.lt k (by simpa using hk)).1
    · obtain ⟨e, u, h1, h2⟩ := hat k hk
      exact Or.inr (h1.lt k h2).1
def RelDe (w0 : World) (b i j B : Nat) (R : Pc) (g N : Nat) (ix : Value) (wr : World) : Prop :=
  ∃ (r : Nat) (l : List UInt8), r ≤ 2 ∧ ix = .int .i64 (r : Int) ∧ l.length = N ∧ Post ((MarkP g l).star ((BkN b (i + r * 100000000) (j + r) B).star R)) w0 [] wr
def RelDf (w0 : World) (b i j B : Nat) (R : Pc) (g N : Nat) (l c : List UInt8) (ix : Value) (wr : World) : Prop :=
  ∃ q : Nat, q ≤ N ∧ q ≤ c.length ∧ ix = .int .i64 (q : Int) ∧ Post ((MarkP g (ovr l c q)).star ((BkN b i j B).star R)) w0 [] wr
theorem BkN.part {w0 w : World} {F : List Nat} {b i j B : Nat} {P R : Pc} (h : Post (P.star ((BkN b i j B).star R)) w0 F w) : Post R w0 F w := h.ent ((Pc.Ent.right _ _).trans (Pc.Ent.right _ _))
set_option maxRecDepth 100000 in
set_option maxHeartbeats 4000000 in
theorem kdecode_any {w0 w : World} {b i j B : Nat} {R : Pc} {vb vc : Value} {Bs C : List UInt8} (h : Post ((BkN b i j B).star R) w0 [] w) (hB : 100000000 ≤ B) (hB2 : B ≤ 1000000000) (hi : i ≤ 900000000000) (hj : j ≤ 900000000) (hT : Tabs w0) (hb : ArgR R w0 vb Bs) (hc : ArgR R w0 vc C) :
    Calls Tryz.prog 38 #[.pointer (some ⟨b, 0, none⟩), vb, vc] w fun e w' => e = .returned (.bool true) ∧ Post ((BkN b (i + 200000000) (j + 2) B).star R) w0 [] w' := by
  have hb0 := hb.rd w (h.ent (Pc.Ent.right _ _))
  have hc0 := hc.rd w (h.ent (Pc.Ent.right _ _))
  have hBl := hb.len
  have hCl := hc.len
  have HLP := Lib.hid (lent_P Bs h hb0 (by omega))
  have HT := Lib.hid hT
  have HC := Lib.hid hc
  obtain ⟨Ab, cb, rfl, -⟩ := rd_slice hb0
  obtain ⟨Ac, cc, rfl, -⟩ := rd_slice hc0
  clear h hb hc hb0 hc0 hT
  go_enter Tryz.func38, Tryz.ntmps38
  go_wp2_with fail
  refine HLP.out.mono ?_; rintro e w1 ⟨g, rfl, hg, hp⟩
  have H1 := Lib.hid hp
  clear hp HLP
  have hN : Bs.length = Bs.length := rfl
  generalize hBN : Bs.length = N at *
  have HBN := Lib.hid hBN
  clear hBN hN
  obtain ⟨i0, hi0, hz0, hz1, hz2⟩ := info_parts info5
  go_wp2_with fail
  go_loopw [8] (fun ix wr => RelDe w0 b i j B R g N ix wr) (fun ix _ => 2 - (intOf ix).toNat)
  case atStart => exact ⟨0, Bs, by omega, rfl, HBN.out, H1.out⟩
  case round =>
    clear H1
    obtain ⟨r, l, hr, rfl, hln, hp⟩ := hrel
    have H2 := Lib.hid hp
    have HLN := Lib.hid hln
    rcases Nat.lt_or_ge r 2 with hlt | hge
    · have HM2 := Lib.hid (fun W (hm : Mods [] wr W) => rd_mark hln ((H2.out.still hm).blkOf (Pc.Ent.left _ _)) (by omega))
      clear hp hln
      go_wp2_with (at_builtin; go_must (refine wpList_app _ rfl _ _ 22 22 rfl wr.heap.size 5 i0 (.int .u8 0) 1 1 Tryz.underlying22 hi0 hz0 hz1 hz2 rfl (.slice none 0 0) 0 [] rfl (World.ownsRow_nil _ _ _ _) _ N (l.map byteV) rfl ?c1 ?c2 ?c3 ?c4 ?_))
      case c1 =>
        have h := (HM2.out wr (Mods.refl _ _)).src Tryz.underlying22 (bytes_one _)
        rw [List.length_map, HLN.out] at h
        exact h
      case c2 => unfold maxLen; omega
      case c3 => omega
      case c4 => exact Nat.le_refl _
      intro va w3 hown hgrow hat
      have hm3 := (Mods.refl [] wr).grown hgrow (by simp [Value.ownBlock])
      have hp3 := H2.out.addRow (v := va) (n := N) (xs := l.map byteV) hm3 hown
      have H3 := Lib.hid hp3
      have HM3 := Lib.hid hm3
      have HW3 := Lib.hid (show Rd w3 va (l.map byteV) from Rd.of_own hown)
      obtain ⟨Aw, cw, rfl⟩ := own_ctor hown
      have HD := Lib.hid (decode_any (w := w3) l (HM2.out w3 hm3) (by have := HLN.out; omega) (HT.out.mods hp3.mods))
      have HE := Lib.hid (fun W (hw : Rd W (.slice Aw N cw) (l.map byteV)) => rdecode_any (w := W) l hw (by have := HLN.out; omega))
      have hlm : l.length ≤ 100000000 := by have := HLN.out; omega
      simp only [decR_eq hlm] at HE
      obtain ⟨hds, hdl⟩ := decP_small hlm
      have hdl2 : (decP l).1.length ≤ 6250000 := by omega
      have HDS := Lib.hid hds
      generalize decP l = D at HD HE HDS hdl2
      obtain ⟨dl, de⟩ := D
      simp only at HD HE HDS hdl2
      clear hown hgrow hat hm3 hp3 hds hdl hlm
      go_wp2_with fail
      refine HD.out.mono ?_; rintro e w4 ⟨v4, rfl, ho4, hm4⟩
      obtain ⟨V4, hV4, hq4⟩ := ents_post ho4 hm4
      have H4 := Lib.hid (H3.out.addP hq4)
      have HV4 := Lib.hid hV4
      have HM4 := Lib.hid (HM3.out.trans hm4 (by simp))
      have HE4 := Lib.hid (HE.out _ (HW3.out.mods hm4 (by simp)))
      have HW4 := Lib.hid (HW3.out.mods hm4 (by simp))
      obtain ⟨A4, c4, rfl⟩ := own_ctor (hq4.rowAt (Pc.Ent.left _ _))
      clear hm4 hq4 ho4 hV4 HD HE
      go_wp2_with fail
      refine HE4.out.mono ?_; rintro e w5 ⟨v5, rfl, ho5, hm5⟩
      obtain ⟨V5, hV5, hq5⟩ := ents_post ho5 hm5
      have H5 := Lib.hid (H4.out.addP hq5)
      have HV5 := Lib.hid hV5
      obtain ⟨A5, c5, rfl⟩ := own_ctor (hq5.rowAt (Pc.Ent.left _ _))
      have HLF := Lib.hid (left_any l HLN.out ((H5.out).blkOf ((Pc.Ent.right _ _).trans ((Pc.Ent.right _ _).trans ((Pc.Ent.right _ _).trans (Pc.Ent.left _ _))))) (HW4.out.mods hm5 (by simp)) (by have := HLN.out; omega))
      clear hm5 hq5 ho5 hV5 HE4 HW4 H4
      go_wp2_with fail
      refine HLF.out.mono ?_; rintro e w6 ⟨rfl, rfl⟩
      have H6 := Lib.hid (H5.out.ent (Pc.perm [EntS (.slice A5 dl.length c5) dl V5, EntS (.slice A4 dl.length c4) dl V4, Pc.row 5 1 (.slice Aw N cw) N (l.map byteV), MarkP g l, BkN b (i + r * 100000000) (j + r) B, R] [1, 0, 4, 3, 5, 2] (n := 6) (by decide)))
      have HEN := Lib.hid (entries_any H6.out HV4.out HV5.out (fun e he => Nat.le_trans (HDS.out e he).data (by omega)) (by omega) hB2 (by omega) (by omega))
      clear H5 HLF
      go_wp2_with fail
      refine HEN.out.mono ?_; rintro e w7 ⟨rfl, hp7⟩
      have H7 : Hid (Post ((MarkP g (ovr l C 0)).star ((BkN b (i + (r + 1) * 100000000) (j + (r + 1)) B).star R)) w0 [] w7) := Lib.hid (by
        have h8 := BkN.up hp7 (i' := i + (r + 1) * 100000000) (j' := j + (r + 1)) (B' := B) (by omega) (by omega) (Nat.le_refl _)
        have h9 := h8.ent ((Pc.Ent.swap _ _ _).trans ((Pc.Ent.refl _).mono ((Pc.Ent.refl _).mono (Pc.Ent.left _ _))))
        simpa [ovr] using h9)
      clear hp7 HEN H6
      go_wp2_with fail
      go_loopw [16] (fun ix wr => RelDf w0 b (i + (r + 1) * 100000000) (j + (r + 1)) B R g N l C ix wr) (fun ix _ => N - (intOf ix).toNat)
      case atStart => exact ⟨0, by omega, by omega, rfl, H7.out⟩
      case round =>
        clear H2 H3 H7 HM2 HM3 HW3 HDS HV4 HV5 HM4
        obtain ⟨q, hq, hqc, rfl, hp⟩ := hrel
        have HP := Lib.hid hp
        by_cases h1 : q < N
        · by_cases h2 : q < C.length
          · obtain ⟨g2, off, rfl, d0⟩ := rd_at (HC.out.rd wr (BkN.part hp)) h2
            have hlen := ovr_len (l := l) (c := C) (k := q) (by have := HLN.out; omega) hqc
            have hkk : q < (ovr l C q).length := by have := HLN.out; omega
            have hg := hp.blkOf (Pc.Ent.left _ _)
            have c0 : wr.cell? ⟨g, q, none⟩ = some (byteV ((ovr l C q)[q])) := by
              rw [cell_of_row _ _ _ _ _ _ hg, List.getElem?_toArray, List.map_append, List.getElem?_append_left (by simpa using hkk), List.getElem?_map, List.getElem?_eq_getElem hkk]
              rfl
            generalize (ovr l C q)[q] = z at c0
            unfold byteV at c0
            have f0 : wr.frozen? ⟨g, q, none⟩ = false := frozen_of_row _ _ _ _ _ hg
            have hset := hp.step (blk_turn (i := q) (byteV C[q]))
            have e : ((ovr l C q ++ [90, 91]).map byteV).toArray.setIfInBounds q (byteV C[q]) = ((ovr l C (q + 1) ++ [90, 91]).map byteV).toArray := by
              rw [List.setIfInBounds_toArray, ← List.map_set, List.set_append, if_pos hkk, ovr_next (by have := HLN.out; omega) h2]
            rw [e] at hset
            have HR : Hid (RelDf w0 b (i + (r + 1) * 100000000) (j + (r + 1)) B R g N l C (.int .i64 ((q : Int) + 1)) (wr.setCell ⟨g, q, none⟩ (.int .u8 (C[q].toNat : Int)))) := Lib.hid ⟨q + 1, by omega, by omega, rfl, hset⟩
            clear hg hp hset e hlen hkk
            go_wp2_with fail
            exact ⟨HR.out, by simp only [intOf]; omega⟩
          · have hb : decide ((q : Int) < (C.length : Int)) = false := by simp; omega
            have HR : Hid (RelDe w0 b i j B R g N (.int .i64 ((r : Int) + 1)) wr) := Lib.hid ⟨r + 1, ovr l C q, by omega, rfl, by rw [ovr_len (by have := HLN.out; omega) hqc]; exact HLN.out, hp⟩
            clear hp
            go_wp2_with fail
            exact ⟨HR.out, by simp only [intOf]; omega⟩
        · have hb : decide ((q : Int) < (N : Int)) = false := by simp; omega
          have HR : Hid (RelDe w0 b i j B R g N (.int .i64 ((r : Int) + 1)) wr) := Lib.hid ⟨r + 1, ovr l C q, by omega, rfl, by rw [ovr_len (by have := HLN.out; omega) hqc]; exact HLN.out, hp⟩
          clear hp
          go_wp2_with fail
          exact ⟨HR.out, by simp only [intOf]; omega⟩
    · obtain rfl : r = 2 := by omega
      have H9 := Lib.hid (hp.ent (Pc.Ent.right _ _))
      clear hp
      go_wp2_with fail
      go_ret
      exact ⟨rfl, H9.out⟩
end Go.Proofs.YtmcekhgmmocajaaGreatDoor
namespace Go.Proofs.YtmcekhgmmocajaaGreatDoor
open Go.RowKit Me Go.BigFrame

theorem mrg_le {K E : Type} [DecidableEq K] (c : K → K → Int) (path : E → K) (same : E → E → Bool) : ∀ l m : List E, (Dg.mrg c path same l m).length ≤ l.length + m.length
  | [], [] => by simp [Dg.mrg]
  | [], b :: m => by
    have := mrg_le c path same [] m
    rw [Dg.mrg]
    simp only [List.length_cons, List.length_nil] at this ⊢
    omega
  | a :: l, [] => by
    have := mrg_le c path same l []
    rw [Dg.mrg]
    simp only [List.length_cons, List.length_nil] at this ⊢
    omega
  | a :: l, b :: m => by
    have h1 := mrg_le c path same l m
    have h2 := mrg_le c path same l (b :: m)
    have h3 := mrg_le c path same (a :: l) m
    rw [Dg.mrg]
    simp only [List.length_cons] at h2 h3 ⊢
    split
    · split
      · omega
      · simp only [List.length_cons]
        omega
    · split
      · simp only [List.length_cons]
        omega
      · simp only [List.length_cons]
        omega
termination_by l m => l.length + m.length
theorem diffP_len {a b : List UInt8} (ha : a.length ≤ 100000000) (hb : b.length ≤ 100000000) : (diffP a b).1.length ≤ 12500000 := by
  unfold diffP
  split
  · simp
  · have h1 := (decP_small ha).2
    have h2 := (decP_small hb).2
    have := mrg_le cmpP EntP.path sameE (decP a).1 (decP b).1
    simp only
    omega
theorem diffP_self {a : List UInt8} (ha : a.length ≤ 100000000) : ∃ e : Nat, diffP a a = ([], e) ∧ (e = 0 ∨ e = 210) := by
  rcases dec_cases a ha with ⟨M, h1, h2, -, -⟩ | h1
  · refine ⟨0, ?_, Or.inl rfl⟩
    unfold diffP
    rw [h1, if_neg (by simp), Dg.mrg_self cmpP_ord sameE_self (enc_srt h2)]
  · refine ⟨210, ?_, Or.inr rfl⟩
    unfold diffP
    rw [h1, if_pos (Or.inl (by decide))]
theorem chs_row {w : World} {B : Nat} {v : Value} {X : List (ByteArray × Bool × Bool)} (h : Chs w B v X) : w.ownsRow B 54 3 v X.length (X.flatMap chC) := h
theorem nat_eq_self (n : Nat) : ((n : Int) == (n : Int)) = true := by simp
set_option maxRecDepth 100000 in
set_option maxHeartbeats 4000000 in
theorem kdiff_any {w0 w : World} {b i j B : Nat} {R : Pc} {vb vc : Value} {Bs C : List UInt8} (h : Post ((BkN b i j B).star R) w0 [] w) (hB : 100000000 ≤ B) (hB2 : B ≤ 1000000000) (hj : j ≤ 900000000) (hT : Tabs w0) (hb : ArgR R w0 vb Bs) (hc : ArgR R w0 vc C) :
    Calls Tryz.prog 39 #[.pointer (some ⟨b, 0, none⟩), vb, vc] w fun e w' => e = .returned (.bool true) ∧ Post ((BkN b i (j + 3) B).star R) w0 [] w' := by
  have H0 := Lib.hid h
  have HT := Lib.hid hT
  have HB := Lib.hid hb
  have HC := Lib.hid hc
  have hBl := hb.len
  have hCl := hc.len
  have h0 := h.ent (Pc.Ent.right _ _)
  obtain ⟨Ab, cb, rfl, -⟩ := rd_slice (hb.rd w h0)
  obtain ⟨Ac, cc, rfl, -⟩ := rd_slice (hc.rd w h0)
  have HLP := Lib.hid (lent_P Bs h (hb.rd w h0) (by omega))
  have hx1 := diffP_len hBl hCl
  have hy1 := diffP_len hCl hBl
  obtain ⟨e3, hself, he3⟩ := diffP_self hBl
  have HD1 := Lib.hid (fun W (hW : Post (Pc.emp.star Pc.emp) w0 [] W → True) (va vb : Value) (ha : Rd W va (Bs.map byteV)) (hb' : Rd W vb (C.map byteV)) (hT' : Tabs W) => ddiff_any (w := W) Bs C ha hb' hBl hCl hT')
  have HD2 := Lib.hid (fun W (va vb : Value) (ha : Rd W va (C.map byteV)) (hb' : Rd W vb (Bs.map byteV)) (hT' : Tabs W) => ddiff_any (w := W) C Bs ha hb' hCl hBl hT')
  have HD3 := Lib.hid (fun W (va vb : Value) (ha : Rd W va (Bs.map byteV)) (hb' : Rd W vb (Bs.map byteV)) (hT' : Tabs W) => ddiff_any (w := W) Bs Bs ha hb' hBl hBl hT')
  have HR1 := Lib.hid (fun W (va vb : Value) (ha : Rd W va (Bs.map byteV)) (hb' : Rd W vb (C.map byteV)) => rDiff_any (w := W) Bs C ha hb' hBl hCl)
  have HR2 := Lib.hid (fun W (va vb : Value) (ha : Rd W va (C.map byteV)) (hb' : Rd W vb (Bs.map byteV)) => rDiff_any (w := W) C Bs ha hb' hCl hBl)
  simp only [hself] at HD3
  generalize diffP Bs C = D1 at HD1 HR1 hx1
  generalize diffP C Bs = D2 at HD2 HR2 hy1
  obtain ⟨X, e1⟩ := D1
  obtain ⟨Y, e2⟩ := D2
  simp only at hx1 hy1
  have HRT := Lib.hid (fun W (hW : Mods [] w0 W) => HT.out.mods hW)
  clear h hT hb hc h0 hself H0
  go_enter Tryz.func39, Tryz.ntmps39
  go_wp2_with fail
  refine HLP.out.mono ?_; rintro e w1 ⟨g1, rfl, hg1, hp1⟩
  have H1 := Lib.hid hp1
  clear HLP
  have HLP := Lib.hid (lent_P C hp1 (HC.out.rd w1 (hp1.ent ((Pc.Ent.right _ _).trans (Pc.Ent.right _ _)))) (by omega))
  clear hp1
  go_wp2_with fail
  refine HLP.out.mono ?_; rintro e w2 ⟨g2, rfl, hg2, hp2⟩
  have H2 := Lib.hid hp2
  have hp : Rd w2 (.slice (some ⟨g1, 0, none⟩) Bs.length (Bs.length + 2)) (Bs.map byteV) := rd_mark rfl (hp2.blkOf ((Pc.Ent.right _ _).trans (Pc.Ent.left _ _))) (by omega)
  have hq : Rd w2 (.slice (some ⟨g2, 0, none⟩) C.length (C.length + 2)) (C.map byteV) := rd_mark rfl (hp2.blkOf (Pc.Ent.left _ _)) (by omega)
  have HP := Lib.hid (fun W (hm : Mods [] w2 W) => hp.mods hm (by simp))
  have HQ := Lib.hid (fun W (hm : Mods [] w2 W) => hq.mods hm (by simp))
  have hM1 : w2.heap[g1]? = some (.cells ((Bs ++ [90, 91]).map byteV).toArray 5 (0, 0)) := hp2.blkOf ((Pc.Ent.right _ _).trans (Pc.Ent.left _ _))
  have hM2 : w2.heap[g2]? = some (.cells ((C ++ [90, 91]).map byteV).toArray 5 (0, 0)) := hp2.blkOf (Pc.Ent.left _ _)
  clear HLP H1 hp2 hp hq hM1 hM2
  go_wp2_with fail
  refine (HD1.out w2 (fun _ => trivial) _ _ (HP.out w2 (Mods.refl _ _)) (HQ.out w2 (Mods.refl _ _)) (HRT.out w2 H2.out.mods)).mono ?_; rintro e w3 ⟨v3, rfl, ho3, hm3⟩
  have H3 := Lib.hid (H2.out.addRow hm3 (chs_row ho3))
  obtain ⟨A3, c3, rfl⟩ := own_ctor (chs_row ho3)
  clear ho3 hm3 H2 HP HQ
  have h4 : Post R w0 [] w3 := H3.out.ent ((Pc.Ent.right _ _).trans ((Pc.Ent.right _ _).trans ((Pc.Ent.right _ _).trans (Pc.Ent.right _ _))))
  have HRR := Lib.hid (HR1.out w3 _ _ (HB.out.rd w3 h4) (HC.out.rd w3 h4))
  clear h4
  go_wp2_with fail
  refine HRR.out.mono ?_; rintro e w4 ⟨v4, rfl, ho4, hm4⟩
  have H4 : Hid (Post ((Pc.row 54 3 (.slice A3 X.length c3) X.length (X.flatMap chC)).star ((Pc.row 54 3 v4 X.length (X.flatMap chC)).star ((BkN b i j B).star ((MarkP g1 Bs).star ((MarkP g2 C).star R))))) w0 [] w4) :=
    Lib.hid ((H3.out.addRow hm4 (chs_row ho4)).ent (Pc.perm [Pc.row 54 3 v4 X.length (X.flatMap chC), Pc.row 54 3 (.slice A3 X.length c3) X.length (X.flatMap chC), MarkP g2 C, MarkP g1 Bs, BkN b i j B, R] [1, 0, 4, 3, 2, 5] (n := 6) (by decide)))
  obtain ⟨A4, c4, rfl⟩ := own_ctor (chs_row ho4)
  clear ho4 hm4 H3 HRR
  go_wp2_with fail
  refine (BkN.changes H4.out (by omega) hB2 (by omega)).mono ?_; rintro e w5 ⟨rfl, hp5⟩
  have H5 := Lib.hid hp5
  have hp : Rd w5 (.slice (some ⟨g1, 0, none⟩) Bs.length (Bs.length + 2)) (Bs.map byteV) := rd_mark rfl (hp5.blkOf ((Pc.Ent.right _ _).trans ((Pc.Ent.right _ _).trans (Pc.Ent.left _ _)))) (by omega)
  have hq : Rd w5 (.slice (some ⟨g2, 0, none⟩) C.length (C.length + 2)) (C.map byteV) := rd_mark rfl (hp5.blkOf ((Pc.Ent.right _ _).trans ((Pc.Ent.right _ _).trans ((Pc.Ent.right _ _).trans (Pc.Ent.left _ _))))) (by omega)
  have HDD := Lib.hid (HD2.out w5 _ _ hq hp (HRT.out w5 hp5.mods))
  clear hp5 hp hq H4
  go_wp2_with fail
  refine HDD.out.mono ?_; rintro e w6 ⟨v6, rfl, ho6, hm6⟩
  have H6 := Lib.hid (H5.out.addRow hm6 (chs_row ho6))
  obtain ⟨A6, c6, rfl⟩ := own_ctor (chs_row ho6)
  clear ho6 hm6 H5 HDD
  have h4 : Post R w0 [] w6 := H6.out.ent ((Pc.Ent.right _ _).trans ((Pc.Ent.right _ _).trans ((Pc.Ent.right _ _).trans ((Pc.Ent.right _ _).trans (Pc.Ent.right _ _)))))
  have HRR := Lib.hid (HR2.out w6 _ _ (HC.out.rd w6 h4) (HB.out.rd w6 h4))
  clear h4
  go_wp2_with fail
  refine HRR.out.mono ?_; rintro e w7 ⟨v7, rfl, ho7, hm7⟩
  have H7 : Hid (Post ((Pc.row 54 3 (.slice A6 Y.length c6) Y.length (Y.flatMap chC)).star ((Pc.row 54 3 v7 Y.length (Y.flatMap chC)).star ((BkN b i (j + 1) B).star ((Pc.row 54 3 (.slice A4 X.length c4) X.length (X.flatMap chC)).star ((MarkP g1 Bs).star ((MarkP g2 C).star R)))))) w0 [] w7) :=
    Lib.hid ((H6.out.addRow hm7 (chs_row ho7)).ent (Pc.perm [Pc.row 54 3 v7 Y.length (Y.flatMap chC), Pc.row 54 3 (.slice A6 Y.length c6) Y.length (Y.flatMap chC), Pc.row 54 3 (.slice A4 X.length c4) X.length (X.flatMap chC), BkN b i (j + 1) B, MarkP g1 Bs, MarkP g2 C, R] [1, 0, 3, 2, 4, 5, 6] (n := 7) (by decide)))
  obtain ⟨A7, c7, rfl⟩ := own_ctor (chs_row ho7)
  clear ho7 hm7 H6 HRR
  go_wp2_with fail
  refine (BkN.changes H7.out (by omega) hB2 (by omega)).mono ?_; rintro e w8 ⟨rfl, hp8⟩
  have hp8 := hp8.ent (Pc.Ent.right _ _)
  have H8 := Lib.hid hp8
  have hp : Rd w8 (.slice (some ⟨g1, 0, none⟩) Bs.length (Bs.length + 2)) (Bs.map byteV) := rd_mark rfl (hp8.blkOf ((Pc.Ent.right _ _).trans ((Pc.Ent.right _ _).trans (Pc.Ent.left _ _)))) (by omega)
  have hq : Rd w8 (.slice (some ⟨g2, 0, none⟩) C.length (C.length + 2)) (C.map byteV) := rd_mark rfl (hp8.blkOf ((Pc.Ent.right _ _).trans ((Pc.Ent.right _ _).trans ((Pc.Ent.right _ _).trans (Pc.Ent.left _ _))))) (by omega)
  have HDD := Lib.hid (HD1.out w8 (fun _ => trivial) _ _ hp hq (HRT.out w8 hp8.mods))
  clear hp8 hp hq H7
  go_wp2_with fail
  refine HDD.out.mono ?_; rintro e w9 ⟨v9, rfl, ho9, hm9⟩
  have H9 : Hid (Post ((Pc.row 54 3 v9 X.length (X.flatMap chC)).star ((Pc.row 54 3 (.slice A4 X.length c4) X.length (X.flatMap chC)).star ((BkN b i (j + 1 + 1) B).star ((MarkP g1 Bs).star ((MarkP g2 C).star R))))) w0 [] w9) :=
    Lib.hid ((H8.out.addRow hm9 (chs_row ho9)).ent (Pc.perm [Pc.row 54 3 v9 X.length (X.flatMap chC), BkN b i (j + 1 + 1) B, Pc.row 54 3 (.slice A4 X.length c4) X.length (X.flatMap chC), MarkP g1 Bs, MarkP g2 C, R] [0, 2, 1, 3, 4, 5] (n := 6) (by decide)))
  obtain ⟨A9, c9, rfl⟩ := own_ctor (chs_row ho9)
  clear ho9 hm9 H8 HDD
  go_wp2_with fail
  refine (BkN.changes H9.out (by omega) hB2 (by omega)).mono ?_; rintro e wa ⟨rfl, hpa⟩
  have hpa := hpa.ent (Pc.Ent.right _ _)
  have Ha := Lib.hid hpa
  have hp : Rd wa (.slice (some ⟨g1, 0, none⟩) Bs.length (Bs.length + 2)) (Bs.map byteV) := rd_mark rfl (hpa.blkOf ((Pc.Ent.right _ _).trans (Pc.Ent.left _ _))) (by omega)
  have HDD := Lib.hid (HD3.out wa _ _ hp hp (HRT.out wa hpa.mods))
  clear hpa hp H9
  go_wp2_with fail
  refine HDD.out.mono ?_; rintro e we ⟨ve, rfl, hoe, hme⟩
  have hpe := Ha.out.still hme
  have He := Lib.hid hpe
  obtain ⟨Ae, ce, rfl⟩ := own_ctor (chs_row hoe)
  have hr := hpe.ent ((Pc.Ent.right _ _).trans ((Pc.Ent.right _ _).trans (Pc.Ent.right _ _)))
  have HL1 := Lib.hid (left_any Bs rfl (hpe.blkOf ((Pc.Ent.right _ _).trans (Pc.Ent.left _ _))) (HB.out.rd we hr) (by omega))
  have HL2 := Lib.hid (left_any C rfl (hpe.blkOf ((Pc.Ent.right _ _).trans ((Pc.Ent.right _ _).trans (Pc.Ent.left _ _)))) (HC.out.rd we hr) (by omega))
  clear hpe hme hoe hr Ha HDD
  go_wp2_with fail
  refine HL1.out.mono ?_; rintro e wf ⟨rfl, rfl⟩
  go_wp2_with fail
  refine HL2.out.mono ?_; rintro e wf ⟨rfl, rfl⟩
  have H9 : Hid (Post ((BkN b i (j + 3) B).star R) w0 [] we) := Lib.hid (He.out.ent ((Pc.Ent.refl _).mono ((Pc.Ent.right _ _).trans (Pc.Ent.right _ _))))
  have q1 := nat_eq_self e1
  have q2 := nat_eq_self e2
  clear He HL1 HL2
  rcases he3 with rfl | rfl
  · go_wp2_with fail
    go_ret
    exact ⟨rfl, H9.out⟩
  · go_wp2_with fail
    go_ret
    exact ⟨rfl, H9.out⟩
end Go.Proofs.YtmcekhgmmocajaaGreatDoor
namespace Go.Proofs.YtmcekhgmmocajaaGreatDoor
open Go Go.RowKit Me Go.BigFrame

theorem setRow_new (w : World) (cur cs : Array Value) (t : TypeId) : (w.alloc (.cells cur t)).setRow w.heap.size cs = w.alloc (.cells cs t) := by
  unfold World.setRow World.alloc
  simp only [World.mk.injEq, and_true]
  refine Array.ext_getElem? fun i => ?_
  rw [Array.getElem?_modify]
  by_cases h : w.heap.size = i
  · subst h
    simp
  · rw [if_neg h]
    rw [Array.getElem?_push, Array.getElem?_push]
    rw [if_neg (by omega), if_neg (by omega)]
theorem run_store_new {P : Program} (w : World) (cur vs : Array Value) (t : TypeId) (hn : vs.size = cur.size) (h1 : ∀ v ∈ vs.toList, v.oneCell' = true) :
    (storeCells ⟨w.heap.size, 0, none⟩ vs.toList).run P (w.alloc (.cells cur t)) = .ok () (w.alloc (.cells vs t)) := by
  have h := run_storeCells_at P w.heap.size 0 t vs.toList 0 cur (w.alloc (.cells cur t)) (heap_alloc_new w _) (by simp; omega) h1
  rw [h]
  have e : (cur.toList.take (0 + 0) ++ vs.toList ++ cur.toList.drop (0 + 0 + vs.toList.length)).toArray = vs := by
    rw [List.drop_of_length_le (by simp; omega)]
    simp
  rw [e, setRow_new]
/-- The weights of entries, till the bound is passed. -/
def wsumE : List EntP → Nat → Nat
  | [], n => n
  | e :: L, n => if n ≤ 67108864 then wsumE L (n + 30 + e.path.size + e.gid.size + e.data.length) else n
theorem wsumE_stop {L : List EntP} {n : Nat} (h : ¬ n ≤ 67108864) : wsumE L n = n := by
  cases L with
  | nil => rfl
  | cons s L => unfold wsumE; rw [if_neg h]
theorem wsumE_ge : ∀ (L : List EntP) (n : Nat), n ≤ wsumE L n
  | [], n => Nat.le_refl _
  | e :: L, n => by
    unfold wsumE
    split
    · exact Nat.le_trans (by omega) (wsumE_ge L _)
    · exact Nat.le_refl _
theorem wsumE_ok : ∀ (L : List EntP) (n : Nat), wsumE L n ≤ 67108864 → n + 30 * L.length ≤ 67108864 ∧ ∀ e ∈ L, e.path.size + e.gid.size + e.data.length ≤ 67108864
  | [], n, h => ⟨by simpa [wsumE] using h, by simp⟩
  | e :: L, n, h => by
    unfold wsumE at h
    by_cases hn : n ≤ 67108864
    · rw [if_pos hn] at h
      obtain ⟨h1, h2⟩ := wsumE_ok L _ h
      refine ⟨by rw [List.length_cons]; omega, fun x hx => ?_⟩
      rcases List.mem_cons.1 hx with rfl | hx
      · omega
      · exact h2 x hx
    · rw [if_neg hn] at h
      omega
theorem wsumE_big : ∀ (L : List EntP) (n : Nat), (∀ e ∈ L, e.path.size ≤ 140737488355328 ∧ e.gid.size ≤ 140737488355328 ∧ e.data.length ≤ 140737488355328) → n ≤ 500000000000000 → wsumE L n ≤ 500000000000000
  | [], n, _, h => h
  | e :: L, n, hs, h => by
    unfold wsumE
    split
    · exact wsumE_big L _ (fun x hx => hs x (List.mem_cons_of_mem _ hx)) (by have := hs e (by simp); omega)
    · exact h
def RelWx (L : List EntP) (w : World) (n i : Value) (wr : World) : Prop :=
  ∃ k m : Nat, k ≤ L.length ∧ i = .int .i64 k ∧ n = .int .i64 (m : Int) ∧ m ≤ 500000000000000 ∧ 30 * k ≤ m ∧ wsumE L 0 = wsumE (L.drop k) m ∧ Mods [] w wr
set_option maxRecDepth 100000 in
set_option maxHeartbeats 2000000 in
theorem weightX_any {w : World} (L : List EntP) {v : Value} (h : Ents w v L) (hz : ∀ e ∈ L, e.path.size ≤ 140737488355328 ∧ e.gid.size ≤ 140737488355328 ∧ e.data.length ≤ 140737488355328) :
    Calls Tryz.prog 10 #[v] w fun x w' => x = .returned (.int .i64 (wsumE L 0 : Int)) ∧ Mods [] w w' := by
  have H := Lib.hid h
  have HZ := Lib.hid hz
  obtain ⟨A, c, rfl, -⟩ := h
  clear hz
  have hW : ∃ W, wsumE L 0 = W := ⟨_, rfl⟩
  obtain ⟨W, hW⟩ := hW
  have HW0 := Lib.hid hW
  rw [hW]
  clear hW
  go_enter Tryz.func10, Tryz.ntmps10
  go_wp2_with fail
  go_loopw [3, 4] (fun n i wr => RelWx L w n i wr) (fun _ i _ => L.length - (intOf i).toNat)
  case atStart => exact ⟨0, 0, by omega, rfl, rfl, by omega, by omega, rfl, Mods.refl _ _⟩
  case round =>
    obtain ⟨k, s, hk, rfl, rfl, hs5, h30, hall, hm⟩ := hrel
    have HM := Lib.hid hm
    have HALL := Lib.hid hall
    clear hall
    rcases Nat.lt_or_ge k L.length with hlt | hge
    · by_cases hbig : s ≤ 67108864
      · obtain ⟨e, hs⟩ : ∃ e, L[k]? = some e := ⟨_, List.getElem?_eq_getElem hlt⟩
        obtain ⟨g, off, vd, rfl, hrg0, hrd0⟩ := H.out.at hs
        have HRG := Lib.hid (fun w' (hw : Mods [] w w') => range_ent (range_mods hrg0 hw (by simp)))
        obtain ⟨b1, b2, b3⟩ := HZ.out e (List.mem_of_getElem? hs)
        have HTK : Hid (wsumE L 0 = wsumE (L.drop (k + 1)) (s + 30 + e.path.size + e.gid.size + e.data.length)) := Lib.hid (by
          have e1 : L.drop k = e :: L.drop (k + 1) := by
            rw [List.drop_eq_getElem_cons hlt]
            congr 1
            have := (List.getElem?_eq_some_iff.1 hs).2
            simp [this]
          rw [HALL.out, e1]
          conv => lhs; unfold wsumE
          rw [if_pos hbig])
        obtain ⟨vA, vc, rfl, -⟩ := id hrd0
        rw [List.length_map] at *
        obtain ⟨c0, c1, c2, c3, c4⟩ := HRG.out wr hm
        clear hrg0 hrd0 hs hm HRG
        have hb2 : (s : Int) ≤ 67108864 := by omega
        go_wp2_with (go_quiet (fail))
        exact ⟨⟨k + 1, s + 30 + e.path.size + e.gid.size + e.data.length, by omega, rfl, by congr 1, by omega, by omega, HTK.out, HM.out.drewN _⟩, by simp only [intOf]; omega⟩
      · have hb2 : ¬ (s : Int) ≤ 67108864 := by omega
        have HE : Hid (s = W) := Lib.hid (by rw [← HW0.out, HALL.out, wsumE_stop hbig])
        clear hm
        go_wp2_with fail
        go_ret
        exact ⟨by rw [HE.out]; rfl, HM.out⟩
    · obtain rfl : k = L.length := by omega
      have HE : Hid (s = W) := Lib.hid (by rw [← HW0.out, HALL.out, List.drop_length]; rfl)
      clear hm
      go_wp2_with fail
      go_ret
      exact ⟨by rw [HE.out]; rfl, HM.out⟩
def opV (kind : Int) (vl vm vb vc : Value) : Array Value := #[.int .i64 kind, vl, vm, vb, vc]
/-- A step, plainly. -/
structure StP where
  kind : Int
  vl : Value
  vm : Value
  vb : Value
  vc : Value
  L : List EntP
  M : List EntP
  B : List UInt8
  C : List UInt8
def SizedE (e : EntP) : Prop := e.path.size ≤ 140737488355328 ∧ e.gid.size ≤ 140737488355328 ∧ e.data.length ≤ 140737488355328
namespace StP
def v (p : StP) : Array Value := opV p.kind p.vl p.vm p.vb p.vc
structure In (w : World) (p : StP) : Prop where
  l : Ents w p.vl p.L
  m : Ents w p.vm p.M
  b : Rd w p.vb (p.B.map byteV)
  c : Rd w p.vc (p.C.map byteV)
structure Raw (p : StP) : Prop where
  b : p.B.length ≤ 140737488355328
  c : p.C.length ≤ 140737488355328
  l : ∀ e ∈ p.L, SizedE e
  m : ∀ e ∈ p.M, SizedE e
def weight (p : StP) : Nat := p.B.length + p.C.length + wsumE p.L 0 + wsumE p.M 0
theorem In.mods {w w' : World} {p : StP} (h : p.In w) (hm : Mods [] w w') : p.In w' := ⟨h.l.mods hm, h.m.mods hm, h.b.mods hm (by simp), h.c.mods hm (by simp)⟩
end StP
/-- A script in memory. -/
def Scr (w : World) (v : Value) (P : List StP) : Prop :=
  ∃ A c, v = .slice A P.length c ∧ P.length ≤ c ∧ c ≤ maxLen ∧ ∀ i p, P[i]? = some p → (∃ g off, A = some ⟨g, off, none⟩ ∧ w.rangeAt g (off + i * 5) p.v.toList) ∧ p.In w
theorem Scr.mods {w w' : World} {v : Value} {P : List StP} (h : Scr w v P) (hm : Mods [] w w') : Scr w' v P := by
  obtain ⟨A, c, e, h1, h2, h3⟩ := h
  refine ⟨A, c, e, h1, h2, fun i p hp => ?_⟩
  obtain ⟨⟨g, off, e1, h4⟩, h5⟩ := h3 i p hp
  exact ⟨⟨g, off, e1, range_mods h4 hm (by simp)⟩, h5.mods hm⟩
theorem Scr.at {w : World} {A : Option Addr} {n c : Nat} {P : List StP} (h : Scr w (.slice A n c) P) {i : Nat} {p : StP} (hp : P[i]? = some p) : (∃ g off, A = some ⟨g, off, none⟩ ∧ w.rangeAt g (off + i * 5) p.v.toList) ∧ p.In w := by
  obtain ⟨A', c', e, _, _, h3⟩ := h
  have e0 := (Value.slice.inj e).1
  subst e0
  exact h3 i p hp
theorem info44 : (Tryz.prog.info? 44).map (·.size) = some 5 := by kernel_rfl
def zeroO : Array Value := #[.int .i64 0, .slice none 0 0, .slice none 0 0, .slice none 0 0, .slice none 0 0]
theorem opV_one {kind : Int} {Ab Ac Al Am : Option Addr} {nb nc nl nm cb cc cl cm : Nat} : ∀ v ∈ (opV kind (.slice Al nl cl) (.slice Am nm cm) (.slice Ab nb cb) (.slice Ac nc cc)).toList, v.oneCell' = true := by
  intro v hv
  simp only [opV, List.mem_cons, List.not_mem_nil, or_false] at hv
  rcases hv with h | h | h | h | h <;> (subst h; rfl)
theorem op_cells {w : World} {b : Nat} {T : TypeId} {kind : Int} {vl vm vb vc : Value} (h : w.heap[b]? = some (.cells (opV kind vl vm vb vc) T (0, 0))) :
    w.cell? ⟨b, 0, none⟩ = some (.int .i64 kind) ∧ w.cell? ⟨b, 1, none⟩ = some vl ∧ w.cell? ⟨b, 2, none⟩ = some vm ∧ w.cell? ⟨b, 3, none⟩ = some vb ∧ w.cell? ⟨b, 4, none⟩ = some vc := by
  refine ⟨?_, ?_, ?_, ?_, ?_⟩ <;> (rw [cell_of_row _ _ _ _ _ _ h]; rfl)
def Near (P : List StP) (m : Nat) : Prop := m ≤ 67108864 → ∀ p ∈ P.take 100, p.weight ≤ 67108864
def RelBe (P : List StP) (w : World) (n i : Value) (wr : World) : Prop :=
  ∃ k m : Nat, k ≤ P.length ∧ i = .int .i64 k ∧ n = .int .i64 (m : Int) ∧ m ≤ 4000000000000000 ∧ k ≤ 100 ∧ (∀ p ∈ P.take k, p.weight ≤ m) ∧ Mods [] w wr
set_option maxRecDepth 100000 in
set_option maxHeartbeats 4000000 in
theorem beyond_any {w : World} (P : List StP) {v : Value} (h : Scr w v P) (hr : ∀ p ∈ P, p.Raw) :
    Calls Tryz.prog 13 #[v] w fun e w' => ∃ m : Nat, e = .returned (.bool (decide (67108864 < (m : Int)))) ∧ Near P m ∧ Mods [] w w' := by
  have H := Lib.hid h
  have HR := Lib.hid hr
  obtain ⟨A, c, rfl, hpc, hcm, -⟩ := h
  have hpl : P.length ≤ 9223372036854775807 := by unfold maxLen at hcm; omega
  clear hr hpc hcm
  go_enter Tryz.func13, Tryz.ntmps13
  go_wp2_with fail
  go_loopw [3, 4, 5] (fun n i _ wr => RelBe P w n i wr) (fun _ i _ _ => P.length - (intOf i).toNat)
  case atStart => exact ⟨0, 0, by omega, rfl, rfl, by omega, by omega, by simp, Mods.refl _ _⟩
  case round =>
    obtain ⟨k, m, hk, rfl, rfl, hm, hk100, hall, hmm⟩ := hrel
    have HALL := Lib.hid hall
    have HMM := Lib.hid hmm
    clear hall
    have fin : (∀ p ∈ P.take k, p.weight ≤ m) → (k = P.length ∨ k = 100 ∨ ¬ m ≤ 67108864) → Near P m := by
      intro h1 h2 h4 p hp
      rcases h2 with h2 | h2 | h2
      · subst h2
        have := h1 p (by rw [List.take_length]; exact List.mem_of_mem_take hp)
        omega
      · subst h2
        have := h1 p hp
        omega
      · exact absurd h4 h2
    have HFIN := Lib.hid (fin HALL.out)
    clear fin
    rcases Nat.lt_or_ge k P.length with hlt | hge
    · by_cases hk1 : k < 100
      · by_cases hroom : m ≤ 67108864
        · obtain ⟨p, hp⟩ : ∃ p, P[k]? = some p := ⟨_, List.getElem?_eq_getElem hlt⟩
          obtain ⟨⟨g, off, rfl, hrg⟩, hin⟩ := (H.out.mods hmm).at hp
          have HRG := Lib.hid hrg
          have hraw := HR.out p (List.mem_of_getElem? hp)
          have HP := Lib.hid hp
          obtain ⟨kind, vl, vm, vb, vc, L, M, B, C⟩ := p
          obtain ⟨hl, hM, hb, hc⟩ := hin
          obtain ⟨rb, rc, rl, rm⟩ := hraw
          simp only at hb hc hl hM rb rc rl rm
          have HL := Lib.hid hl
          have HM := Lib.hid hM
          have HRl := Lib.hid rl
          have HRm := Lib.hid rm
          obtain ⟨Ab, cb, rfl, -⟩ := rd_slice hb
          obtain ⟨Ac, cc, rfl, -⟩ := rd_slice hc
          obtain ⟨Al, cl, rfl, -⟩ := hl
          obtain ⟨Am, cm, rfl, -⟩ := hM
          have hstore := run_store_new (P := Tryz.prog) wr zeroO (opV kind (.slice Al L.length cl) (.slice Am M.length cm) (.slice Ab B.length cb) (.slice Ac C.length cc)) 44 rfl opV_one
          unfold zeroO at hstore
          have hbl : wsumE L 0 ≤ 500000000000000 := wsumE_big L 0 rl (by omega)
          have hbm : wsumE M 0 ≤ 500000000000000 := wsumE_big M 0 rm (by omega)
          clear hrg hp hb hc hmm rl rm
          go_upto_region 6 with (refine wpList_load_mid rfl 44 _ rfl g (off + k * 5) rfl (opV kind (.slice Al L.length cl) (.slice Am M.length cm) (.slice Ab B.length cb) (.slice Ac C.length cc)).toList _ HRG.out Tryz.underlying44 rfl info44 ?_)
          clear hstore
          have B5 := Lib.hid (heap_alloc_new wr (.cells (opV kind (.slice Al L.length cl) (.slice Am M.length cm) (.slice Ab B.length cb) (.slice Ac C.length cc)) 44))
          have M5 := Lib.hid (HMM.out.alloc (.cells (opV kind (.slice Al L.length cl) (.slice Am M.length cm) (.slice Ab B.length cb) (.slice Ac C.length cc)) 44))
          have L5 := Lib.hid (HL.out.mods ((Mods.refl [] wr).alloc (.cells (opV kind (.slice Al L.length cl) (.slice Am M.length cm) (.slice Ab B.length cb) (.slice Ac C.length cc)) 44)))
          have X5 := Lib.hid (HM.out.mods ((Mods.refl [] wr).alloc (.cells (opV kind (.slice Al L.length cl) (.slice Am M.length cm) (.slice Ab B.length cb) (.slice Ac C.length cc)) 44)))
          generalize wr.alloc (.cells (opV kind (.slice Al L.length cl) (.slice Am M.length cm) (.slice Ab B.length cb) (.slice Ac C.length cc)) 44) = w5 at *
          generalize wr.heap.size = b5 at *
          obtain ⟨c0, c1, c2, c3, c4⟩ := op_cells B5.out
          have s0 : IntKind.i64.wrap ((m : Int) + (B.length : Int)) = (m : Int) + (B.length : Int) := IntWalk.i64_in _ (by omega)
          have s1 : IntKind.i64.wrap ((m : Int) + (B.length : Int) + (C.length : Int)) = (m : Int) + (B.length : Int) + (C.length : Int) := IntWalk.i64_in _ (by omega)
          go_upto_region 7 with fail
          clear c0 c1 c2 c3 c4 s0 s1
          obtain ⟨z, hz⟩ : ∃ z : Nat, z = m + B.length + C.length := ⟨_, rfl⟩
          have hzi : (m : Int) + (B.length : Int) + (C.length : Int) = (z : Int) := by omega
          rw [hzi]
          have HTK : Hid (∀ x ∈ P.take (k + 1), x.weight ≤ z + wsumE L 0 + wsumE M 0) := Lib.hid (fun x hx => by
            rw [List.take_add_one, HP.out] at hx
            rcases List.mem_append.1 hx with hx | hx
            · have := HALL.out x hx
              omega
            · simp at hx
              subst hx
              simp only [StP.weight]
              omega)
          have HWl := Lib.hid (fun w' (hw' : InC w5 w') => weightX_any (w := w') L (L5.out.mods hw') HRl.out)
          have HWm := Lib.hid (fun w' (hw' : InC w5 w') => weightX_any (w := w') M (X5.out.mods hw') HRm.out)
          have hzb : z ≤ 1000000000000000 := by omega
          clear hz hzi rb rc
          generalize wsumE L 0 = xl at *
          generalize wsumE M 0 = xm at *
          have s0 : IntKind.i64.wrap ((z : Int) + (xl : Int)) = (z : Int) + (xl : Int) := IntWalk.i64_in _ (by omega)
          have s1 : IntKind.i64.wrap ((z : Int) + (xl : Int) + (xm : Int)) = (z : Int) + (xl : Int) + (xm : Int) := IntWalk.i64_in _ (by omega)
          refine wp_region_quiet (C := InC w5) (by kernel_rfl) (by kernel_rfl) (InC.drew w5) ?_
          dsimp only [List.toList_toArray]
          refine wpQuiet_step (fun K hK => ?_)
          go_simp
          refine ⟨_, fun _ _ => rfl, hK _ ?_⟩
          clear hK K
          refine wpQuiet_step (fun K hK => ?_)
          go_simp
          refine ⟨_, fun _ _ => rfl, hK _ ?_⟩
          clear hK K
          refine wpQuiet_load_cell (by go_simp) 23 _ rfl ⟨b5, 1, none⟩ rfl (.slice Al L.length cl) (fun w' hw' => (op_cells (hw'.heap B5.out (by simp))).2.1) (fun w' => Tryz.isAgg23 w') ?_
          refine wpQuiet_step (fun K hK => ?_)
          go_simp
          refine ⟨_, fun w' hw' => (HWl.out w' hw').mono fun _ _ hh => ⟨hh.1, Mods.trans hw' hh.2 (by simp)⟩, hK _ ?_⟩
          clear hK K
          refine wpQuiet_step (fun K hK => ?_)
          go_simp
          refine ⟨_, fun _ _ => rfl, hK _ ?_⟩
          clear hK K
          refine wpQuiet_step (fun K hK => ?_)
          go_simp
          refine ⟨_, fun _ _ => rfl, hK _ ?_⟩
          clear hK K
          refine wpQuiet_load_cell (by go_simp) 23 _ rfl ⟨b5, 2, none⟩ rfl (.slice Am M.length cm) (fun w' hw' => (op_cells (hw'.heap B5.out (by simp))).2.2.1) (fun w' => Tryz.isAgg23 w') ?_
          refine wpQuiet_step (fun K hK => ?_)
          go_simp
          refine ⟨_, fun w' hw' => (HWm.out w' hw').mono fun _ _ hh => ⟨hh.1, Mods.trans hw' hh.2 (by simp)⟩, hK _ ?_⟩
          clear hK K
          refine wpQuiet_step (fun K hK => ?_)
          go_simp
          refine ⟨_, fun _ _ => rfl, hK _ ?_⟩
          clear hK K
          refine wpQuiet_step (fun K hK => ?_)
          go_simp
          refine ⟨_, fun _ _ => rfl, hK _ ?_⟩
          clear hK K
          refine wpQuiet_nil ?_
          intro w7 hw7
          have HN : Hid (RelBe P w (.int .i64 ((z : Int) + (xl : Int) + (xm : Int))) (.int .i64 ((k : Int) + 1)) w7) := Lib.hid ⟨k + 1, z + xl + xm, by omega, rfl, by congr 1, by omega, by omega, HTK.out, M5.out.trans hw7 (by simp)⟩
          clear hw7 s0 s1
          go_wp2_with fail
          exact ⟨HN.out, by simp only [intOf]; omega⟩
        · clear hmm
          have q1 : decide ((67108864 : Int) < (m : Int)) = true := by simp; omega
          go_wp2_with fail
          go_ret
          exact ⟨m, by rw [q1]; rfl, HFIN.out (Or.inr (Or.inr hroom)), HMM.out⟩
      · obtain rfl : k = 100 := by omega
        clear hmm
        go_wp2_with fail
        go_ret
        exact ⟨m, rfl, HFIN.out (by simp), HMM.out⟩
    · obtain rfl : k = P.length := by omega
      clear hmm
      go_wp2_with fail
      go_ret
      exact ⟨m, rfl, HFIN.out (by simp), HMM.out⟩
end Go.Proofs.YtmcekhgmmocajaaGreatDoor
namespace Go.Proofs.YtmcekhgmmocajaaGreatDoor
open Go Go.RowKit Me

/-- What is asked of a step's arguments. -/
structure OpOk (R : Pc) (w0 w : World) (vl vm vb vc : Value) (L M : List EntP) (B C : List UInt8) : Prop where
  l : ArgE w vl L
  m : ArgE w0 vm M
  b : ArgR R w0 vb B
  c : ArgR R w0 vc C
set_option maxRecDepth 100000 in
set_option maxHeartbeats 8000000 in
theorem kstep_any {w0 w : World} {b i j B : Nat} {R : Pc} {kind : Int} {vl vm vb vc : Value} {L M : List EntP} {Bs C : List UInt8} (h : Post ((BkN b i j B).star R) w0 [] w) (hB : 100000000 ≤ B) (hB2 : B ≤ 1000000000) (hi : i ≤ 800000000000) (hj : j ≤ 800000000) (hT : Tabs w0)
    (ho : OpOk R w0 w vl vm vb vc L M Bs C) :
    Calls Tryz.prog 14 #[.pointer (some ⟨b, 0, none⟩), .agg (opV kind vl vm vb vc)] w fun e w' => e = .returned (.bool true) ∧ Post ((BkN b (i + 200000000) (j + 3) B).star R) w0 [] w' := by
  have hp0 := (h.alloc (.cells (opV kind vl vm vb vc) 44)).ent (Pc.Ent.swap _ _ _)
  have H0 := Lib.hid hp0
  have HT := Lib.hid hT
  have hL1 := ho.l.mods ((Mods.refl [] w).alloc (.cells (opV kind vl vm vb vc) 44))
  have HL1 := Lib.hid hL1
  have HM := Lib.hid ho.m
  have HB := Lib.hid (ho.b.more (Q := Pc.blk w.heap.size (.cells (opV kind vl vm vb vc) 44)))
  have HC := Lib.hid (ho.c.more (Q := Pc.blk w.heap.size (.cells (opV kind vl vm vb vc) 44)))
  have hb := hp0.blkOf ((Pc.Ent.right _ _).trans (Pc.Ent.left _ _))
  obtain ⟨Ab, cb, rfl, -⟩ := rd_slice (ho.b.rd w (h.ent (Pc.Ent.right _ _)))
  obtain ⟨Ac, cc, rfl, -⟩ := rd_slice (ho.c.rd w (h.ent (Pc.Ent.right _ _)))
  obtain ⟨Al, cl, rfl, -⟩ := ho.l.rd
  obtain ⟨Am, cm, rfl, -⟩ := ho.m.rd
  obtain ⟨c0, c1, c2, c3, c4⟩ := op_cells hb
  have HUP : Hid (∀ (W : World) (i' j' : Nat) (p : Pc), i' ≤ i + 200000000 → j' ≤ j + 3 → Post ((BkN b i' j' B).star (p.star R)) w0 [] W → Post ((BkN b (i + 200000000) (j + 3) B).star R) w0 [] W) := Lib.hid (fun W i' j' p h1 h2 h3 =>
    (BkN.up h3 h1 h2 (Nat.le_refl _)).ent ((Pc.Ent.refl _).mono (Pc.Ent.right _ _)))
  clear h hp0 hT hb ho hL1
  go_enter Tryz.func14, Tryz.ntmps14
  go_upto_region 1 with fail
  generalize w.alloc (.cells (opV kind (.slice Al L.length cl) (.slice Am M.length cm) (.slice Ab Bs.length cb) (.slice Ac C.length cc)) 44) = w1 at *
  generalize w.heap.size = bo at *
  by_cases k1 : kind = 1
  · subst k1
    go_wp2_with fail
    clear c0 c1 c2 c3 c4
    refine (kencode_any H0.out (by omega) hB2 (by omega) HT.out HL1.out HM.out).mono ?_; rintro e w2 ⟨rfl, hp⟩
    have H2 := Lib.hid (HUP.out w2 _ _ _ (by omega) (by omega) hp)
    clear hp H0
    go_wp2_with fail
    go_ret
    exact ⟨rfl, H2.out⟩
  have q1 : (kind == 1) = false := by simpa using k1
  clear k1
  by_cases k2 : kind = 2
  · subst k2
    go_wp2_with fail
    clear c0 c1 c2 c3 c4
    refine (kdecode_any H0.out hB hB2 (by omega) (by omega) HT.out HB.out HC.out).mono ?_; rintro e w2 ⟨rfl, hp⟩
    have H2 := Lib.hid (HUP.out w2 _ _ _ (by omega) (by omega) hp)
    clear hp H0
    go_wp2_with fail
    go_ret
    exact ⟨rfl, H2.out⟩
  have q2 : (kind == 2) = false := by simpa using k2
  clear k2
  by_cases k3 : kind = 3
  · subst k3
    go_wp2_with fail
    clear c0 c1 c2 c3 c4
    refine (kdiff_any H0.out hB hB2 (by omega) HT.out HB.out HC.out).mono ?_; rintro e w2 ⟨rfl, hp⟩
    have H2 := Lib.hid (HUP.out w2 _ _ _ (by omega) (by omega) hp)
    clear hp H0
    go_wp2_with fail
    go_ret
    exact ⟨rfl, H2.out⟩
  have q3 : (kind == 3) = false := by simpa using k3
  clear k3
  have H2 := Lib.hid (HUP.out w1 _ _ _ (by omega) (by omega) H0.out)
  clear c1 c2 c3 c4 H0
  go_wp2_with fail
  go_ret
  exact ⟨rfl, H2.out⟩
end Go.Proofs.YtmcekhgmmocajaaGreatDoor
