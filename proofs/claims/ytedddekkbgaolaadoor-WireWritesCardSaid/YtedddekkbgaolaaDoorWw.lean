/- The walk of WireWrites. -/
import Derived.Test.YtedddekkbgaolaaDoorTn
import Derived.Test.YtedddekkbgaolaaDoorWp
import Derived.Deep.RegionWith
namespace Go.Proofs.YtedddekkbgaolaaDoor
open Go.RowKit Me

theorem S6.turn {w0 w : World} {vw vv : Value} {P : List Pair} {b : Nat} {E : List En} {H I : List It} (h : Post (S6 vw vv P (BkA b E H I)) w0 [] w) (hE : E.length + 5 * H.length ≤ 100000000) (hH : ∀ x ∈ H, x.bs.length ≤ 100000000) :
    Calls Tryd.prog 26 #[.pointer (some ⟨b, 0, none⟩)] w fun e w' => e = .returned (.bool true) ∧ ∃ E' : List En, E'.length ≤ E.length + 5 * H.length ∧ Post (S6 vw vv P (BkA b E' I [])) w0 [] w' := by
  refine (Post.call h fun F1 hF => turn_any hF hE hH).mono ?_
  rintro e w' ⟨he, F1, ⟨F2, F3, ⟨E', hl, h2⟩, h3, h4, rfl⟩, h5, h6⟩
  exact ⟨he, E', hl, ⟨_, ⟨F2, F3, h2, h3, h4, rfl⟩, h5, h6⟩⟩
set_option maxRecDepth 100000 in
set_option maxHeartbeats 1000000 in
theorem S6.ends {w0 w : World} {vw vv : Value} {P : List Pair} {b : Nat} {E : List En} {H I : List It} (h : Post (S6 vw vv P (BkA b E H I)) w0 [] w) (hE : E.length + 5 * H.length + 5 * I.length ≤ 100000000) (hH : ∀ x ∈ H, x.bs.length ≤ 100000000) (hI : ∀ x ∈ I, x.bs.length ≤ 100000000) :
    Calls Tryd.prog 30 #[.pointer (some ⟨b, 0, none⟩)] w fun e w' => e = .returned (.bool true) ∧ Mods [] w0 w' := by
  have HT := Lib.hid (S6.turn h (by omega) hH)
  go_enter Tryd.func30, Tryd.ntmps30
  go_wp2_with fail
  refine HT.out.mono ?_
  rintro e w1 ⟨rfl, E1, hl, h1⟩
  have HT2 := Lib.hid (S6.turn h1 (by omega) hI)
  clear h h1 HT hl
  go_wp2_with fail
  refine HT2.out.mono ?_
  rintro e w2 ⟨rfl, E2, -, h2⟩
  have HM := Lib.hid h2.mods
  clear h2
  go_wp2_with fail
  go_ret
  exact ⟨rfl, HM.out⟩
theorem nil_one (p : Pc) (e : TypeId) : Pc.Ent p (p.star (Pc.row e 1 (.slice none 0 0) 0 [])) := fun w F h =>
  ⟨F ++ [], ⟨F, [], h, ⟨World.ownsRow_nil _ _ _ _, rfl⟩, by simp, rfl⟩, fun k hk => by simpa using hk⟩
theorem nil_en (p : Pc) : Pc.Ent p (p.star (MkE [])) := fun w F h => ⟨F ++ [], ⟨F, [], h, ⟨by simp, rfl⟩, by simp, rfl⟩, fun k hk => by simpa using hk⟩
/-- A new Book. -/
theorem bkA_new (b : Nat) : Pc.Ent (Pc.blk b (.cells #[.slice none 0 0, .slice none 0 0, .slice none 0 0, .slice none 0 0, .slice none 0 0, .slice none 0 0] 45)) (BkA b [] [] []) := by
  have e1 : Pc.Ent (Pc.row 43 1 (.slice none 0 0) 0 []) ((Pc.row 43 1 (.slice none 0 0) 0 []).star (Pc.row 43 1 (.slice none 0 0) 0 [])) := nil_one _ 43
  have e2 := e1.trans ((Pc.Ent.refl _).mono e1)
  have e3 := e1.trans ((Pc.Ent.refl _).mono e2)
  have e4 : Pc.Ent (Pc.row 43 1 (.slice none 0 0) 0 []) ((Pc.row 5 1 (.slice none 0 0) 0 []).star (Pc.row 43 1 (.slice none 0 0) 0 [])) := (nil_one _ 5).trans (Pc.Ent.comm _ _)
  have e5 := e1.trans ((Pc.Ent.refl _).mono (e4.trans ((Pc.Ent.refl _).mono e3)))
  refine Pc.Ent.to (.slice none 0 0, .slice none 0 0, .slice none 0 0, .slice none 0 0, .slice none 0 0, .slice none 0 0) ?_
  refine ((nil_en _).trans ((?_ : Pc.Ent _ _).mono ((Pc.Ent.emp _).trans ((Pc.Ent.refl _).mono (Pc.Ent.emp _)))))
  exact (nil_one _ 43).trans ((Pc.Ent.refl _).mono e5)

def intY (z : Int) : Value := .int .i64 z
def RelW1 (w : World) (n : Nat) (vw vv i : Value) (wr : World) : Prop :=
  ∃ (k : Nat) (P : List Pair), k ≤ n ∧ i = .int .i64 k ∧ P.length ≤ k ∧ Post ((pairs P).star (rows2 vw vv P)) w [] wr
def RelW2 (w : World) (b n m : Nat) (vw vv i : Value) (wr : World) : Prop :=
  ∃ (k : Nat) (P : List Pair) (E : List En) (H : List It), k ≤ n ∧ i = .int .i64 k ∧ P.length = m ∧ E.length + 5 * H.length ≤ 10 * k ∧ (∀ x ∈ H, x.bs.length ≤ 100000000) ∧ Post (S6 vw vv P (BkA b E H [])) w [] wr
def RelW3 (w : World) (b m : Nat) (vw vv i : Value) (wr : World) : Prop :=
  ∃ (k : Nat) (P : List Pair) (E : List En) (H I : List It), k ≤ m ∧ i = .int .i64 k ∧ P.length = m ∧ E.length + 5 * H.length ≤ 50000000 ∧ (∀ x ∈ H, x.bs.length ≤ 100000000) ∧ I.length ≤ 2 * k ∧ (∀ x ∈ I, x.bs.length ≤ 100000000) ∧ Post (S6 vw vv P (BkA b E H I)) w [] wr
theorem S6.row {w0 w : World} {vw vv : Value} {P : List Pair} {K : Pc} (h : Post (S6 vw vv P K) w0 [] w) : w.ownsRow 0 34 1 vw P.length (P.map Pair.p) ∧ w.ownsRow 0 38 1 vv P.length (P.map Pair.q) :=
  ⟨h.rowAt ((Pc.Ent.right _ _).trans ((Pc.Ent.right _ _).trans (Pc.Ent.left _ _))), h.rowAt ((Pc.Ent.right _ _).trans ((Pc.Ent.right _ _).trans (Pc.Ent.right _ _)))⟩
theorem S6.wf {w0 w : World} {vw vv : Value} {P : List Pair} {K : Pc} {k : Nat} {x : Pair} (h : Post (S6 vw vv P K) w0 [] w) (hx : P[k]? = some x) : ∃ vb vo, IsW 122 w x.a x.S vb vo :=
  (h.ent ((Pc.Ent.right _ _).trans ((Pc.Ent.left _ _).trans ((pairs_take P k x hx).trans (Pc.Ent.left _ _))))).isW
theorem S6.wf2 {w0 w : World} {vw vv : Value} {P : List Pair} {K : Pc} {k : Nat} {x : Pair} (h : Post (S6 vw vv P K) w0 [] w) (hx : P[k]? = some x) : ∃ vb vo, IsW 124 w x.c x.S vb vo :=
  (h.ent ((Pc.Ent.right _ _).trans ((Pc.Ent.left _ _).trans ((pairs_take P k x hx).trans ((Pc.Ent.left _ _).trans (Pc.Ent.comm _ _)))))).isW
theorem items_grow {I I' : List It} {d : List UInt8} (h : I'.map It.bs = I.map It.bs ++ [d] ++ [d]) (hd : d.length ≤ 100000000) (hb : ∀ x ∈ I, x.bs.length ≤ 100000000) : I'.length = I.length + 2 ∧ ∀ x ∈ I', x.bs.length ≤ 100000000 := by
  refine ⟨?_, fun y hy => ?_⟩
  · rw [← List.length_map (f := It.bs), h]
    simp
  · have hm : y.bs ∈ I'.map It.bs := List.mem_map_of_mem hy
    rw [h] at hm
    simp only [List.mem_append, List.mem_map, List.mem_singleton] at hm
    rcases hm with (⟨z, hz, he⟩ | he) | he
    · rw [← he]
      exact hb z hz
    · rw [he]
      exact hd
    · rw [he]
      exact hd
theorem info34 : (Tryd.prog.info? 34).map (fun i => (i.zero, i.size, i.bytes)) = some (some (.pointer none), 1, 8) := by kernel_rfl
theorem info38 : (Tryd.prog.info? 38).map (fun i => (i.zero, i.size, i.bytes)) = some (some (.pointer none), 1, 8) := by kernel_rfl
theorem ent_rows (a c p r q : Pc) : Pc.Ent (c.star (a.star (p.star (r.star q)))) (r.star (q.star ((a.star c).star p))) := by
  refine (Pc.Ent.at4 c a p r q).trans ((Pc.Ent.refl r).mono ?_)
  refine ((Pc.Ent.refl c).mono ((Pc.Ent.refl a).mono (Pc.Ent.comm p q))).trans ((Pc.Ent.at3 c a q p).trans ((Pc.Ent.refl q).mono ?_))
  exact (Pc.Ent.assoc' c a p).trans ((Pc.Ent.comm c a).mono (Pc.Ent.refl p))
theorem rows_new {w0 w : World} {vw vv : Value} {P : List Pair} {a c : Nat} {S : WSt} (h : Post ((Pc.row 38 1 vv (P.length + 1) (P.map Pair.q ++ [.pointer (some ⟨c, 0, none⟩)])).star ((Pc.row 34 1 vw (P.length + 1) (P.map Pair.p ++ [.pointer (some ⟨a, 0, none⟩)])).star (((Wr 122 a S).star (Wr 124 c S)).star (pairs P)))) w0 [] w) :
    Post ((pairs (P ++ [⟨a, c, S⟩])).star (rows2 vw vv (P ++ [⟨a, c, S⟩]))) w0 [] w := by
  unfold rows2
  rw [List.length_append, List.length_singleton, List.map_append, List.map_append]
  exact h.ent ((Pc.Ent.assoc' _ _ _).trans ((Pc.Ent.comm _ _).trans ((pairs_snoc P ⟨a, c, S⟩).mono (Pc.Ent.comm _ _))))
set_option maxRecDepth 100000 in
set_option maxHeartbeats 2000000 in
theorem writes_law {w : World} (hT : Lib.Utf8Tabs 0 1 w) (ns : List Int) {v0 v1 : Value} (h0 : Rd w v0 (ns.map intY)) (hz : ∀ z ∈ ns, -9223372036854775808 ≤ z ∧ z ≤ 9223372036854775807) (L : List (OpP × Value)) (h1 : Ops w v1 L) (i1 : ∀ p ∈ L, OpIn w p)
    (l1 : L.length ≤ 70000000000000) :
    Calls Tryd.prog 6 #[v0, v1] w fun e w' => e = .returned (.bool true) ∧ Mods [] w w' := by
  have HT := Lib.hid hT
  have H0 := Lib.hid h0
  have HZ := Lib.hid hz
  have HL := Lib.hid h1
  have HI := Lib.hid i1
  have HM1 := Lib.hid (much_any L h1 i1 l1)
  obtain ⟨A0, c0, rfl, -, hm0, -⟩ := h0
  obtain ⟨A1, c1, rfl, -⟩ := h1
  have hn0 : (ns.map intY).length = ns.length := List.length_map _
  have H0' : Hid (Rd w (.slice A0 ns.length c0) (ns.map intY)) := Lib.hid (by have := H0.out; rwa [hn0] at this)
  rw [hn0]
  clear hT i1 hz H0 hn0 hm0
  go_enter Tryd.func6, Tryd.ntmps6
  by_cases hn : ns.length ≤ 10000
  · go_wp2_with fail
    refine HM1.out.mono ?_; rintro e w1 ⟨m1, hm1, hb1, rfl, hw1⟩
    have HS1 := Lib.hid hm1
    have HW1 := Lib.hid hw1
    clear hm1 hw1
    by_cases hroom : m1 ≤ 33554432
    · have hs1 := HS1.out hroom
      have hl1 := hs1.1
      have HN1 := Lib.hid hs1.2
      clear hs1 HS1 HM1
      go_wp2_with fail
      refine (known_any w1 (tabs_mods HW1.out HT.out)).mono ?_; rintro e w2 ⟨rfl, hw2⟩
      have hq : Post ((pairs []).star (rows2 (.slice none 0 0) (.slice none 0 0) [])) w [] w2 :=
        ⟨[], ⟨[], [], rfl, ⟨[], [], ⟨World.ownsRow_nil _ _ _ _, rfl⟩, ⟨World.ownsRow_nil _ _ _ _, rfl⟩, by simp, rfl⟩, by simp, rfl⟩, HW1.out.trans hw2 (by simp), by simp⟩
      have HQ := Lib.hid hq
      clear hq hw2 HW1
      go_wp2_with fail
      go_loopw [6, 7, 8] (fun vw vv i wr => RelW1 w ns.length vw vv i wr) (fun _ _ i _ => ns.length - (intOf i).toNat)
      case atStart => exact ⟨0, [], by omega, rfl, by simp, HQ.out⟩
      case round =>
        obtain ⟨k, P, hk, rfl, hP, hp⟩ := hrel
        have HP := Lib.hid hp
        clear HQ
        rcases Nat.lt_or_ge k ns.length with hlt | hge
        · obtain ⟨z, hzk⟩ : ∃ z, ns[k]? = some z := ⟨_, List.getElem?_eq_getElem hlt⟩
          have hzb := HZ.out z (List.mem_of_getElem? hzk)
          obtain ⟨A9, c9, e9, -, -, hcs⟩ := H0'.out.mods hp.mods (by simp)
          have e9' := (Value.slice.inj e9).1
          subst e9'
          obtain ⟨g0, o0, rfl, d0⟩ := hcs k (intY z) (by rw [List.getElem?_map, hzk]; rfl)
          clear e9 hcs hzk
          unfold intY at d0
          by_cases hgood : 0 ≤ z ∧ z ≤ 16777216
          · obtain ⟨l, rfl⟩ : ∃ l : Nat, z = (l : Int) := ⟨z.toNat, by omega⟩
            have hl : l ≤ 16777216 := by omega
            clear hp hgood hzb
            obtain ⟨i0, hi0, hz0, hz1, hz2⟩ := info_parts info34
            obtain ⟨i2, hj0, hy0, hy1, hy2⟩ := info_parts info38
            go_wp2_with fail
            refine (newWriter_ok l _ hl).mono ?_; rintro e w3 ⟨rfl, hi3, hm3⟩
            have HP3 := Lib.hid (HP.out.add hm3 (q := Wr 122 wr.heap.size (WSt.new l)) ⟨_, _, hi3, rfl⟩ (by simp [foot, Value.ownBlock]))
            have d3 : w3.cell? ⟨g0, o0 + k, none⟩ = some (.int .i64 (l : Int)) := by rw [hm3.cell (World.block_lt_of_cell? _ _ d0) (by simp)]; exact d0
            clear hi3 hm3 d0
            generalize wr.heap.size = a at *
            go_wp2_with fail
            refine (vnew_ok l _ hl).mono ?_; rintro e w4 ⟨rfl, hi4, hm4⟩
            have hp4 := (HP3.out.add hm4 (q := Wr 124 w3.heap.size (WSt.new l)) ⟨_, _, hi4, rfl⟩ (by simp [foot, Value.ownBlock])).ent (ent_rows _ _ _ _ _)
            clear hi4 hm4 d3
            generalize w3.heap.size = c at *
            have HP4 := Lib.hid hp4
            have HR4 := Lib.hid (hp4.rowAt (Pc.Ent.left _ _))
            clear hp4
            go_wp2_with (at_builtin; go_must (refine wpList_app _ rfl _ _ 32 32 rfl 0 34 i0 (.pointer none) 1 8 Tryd.underlying32 hi0 hz0 hz1 hz2 rfl _ _ _ rfl (HR4.out.alloc _) _ 1 [.pointer (some ⟨a, 0, none⟩)] rfl ?e1 ?e2 ?e3 ?e4 ?_))
            case e1 => exact src_one Tryd.underlying32 _ _ _ rfl
            case e2 => unfold maxLen; omega
            case e3 => omega
            case e4 => exact Nat.zero_le _
            intro vw2 w5 hown hgrow hat
            have hp5 := (HP4.out.step (row_turn hown hgrow (by simpa using hat))).ent (Pc.Ent.swap _ _ _)
            have HP5 := Lib.hid hp5
            have HR5 := Lib.hid (hp5.rowAt (Pc.Ent.left _ _))
            clear hp5 hown hgrow hat
            go_wp2_with (at_builtin; go_must (refine wpList_app _ rfl _ _ 33 33 rfl 0 38 i2 (.pointer none) 1 8 Tryd.underlying33 hj0 hy0 hy1 hy2 rfl _ _ _ rfl (HR5.out.alloc _) _ 1 [.pointer (some ⟨c, 0, none⟩)] rfl ?e1 ?e2 ?e3 ?e4 ?_))
            case e1 => exact src_one Tryd.underlying33 _ _ _ rfl
            case e2 => unfold maxLen; omega
            case e3 => omega
            case e4 => exact Nat.zero_le _
            intro vv2 w6 hown hgrow hat
            have HR : Hid (RelW1 w ns.length vw2 vv2 (.int .i64 ((k : Int) + 1)) w6) := Lib.hid ⟨k + 1, P ++ [⟨a, c, WSt.new l⟩], by omega, rfl, by rw [List.length_append, List.length_singleton]; omega, rows_new (HP5.out.step (row_turn hown hgrow (by simpa using hat)))⟩
            clear hown hgrow hat
            go_wp2_with fail
            exact ⟨HR.out, by simp only [intOf]; omega⟩
          · have hbad : z < 0 ∨ 16777216 < z := by omega
            clear hp hgood hzb
            go_wp2_with fail
            refine (newWriter_bad z _ hbad).mono ?_; rintro e w3 ⟨rfl, rfl⟩
            go_wp2_with fail
            refine (vnew_bad z _ hbad).mono ?_; rintro e w4 ⟨rfl, rfl⟩
            have HR : Hid (RelW1 w ns.length _ _ (.int .i64 ((k : Int) + 1)) wr) := Lib.hid ⟨k + 1, P, by omega, rfl, by omega, HP.out⟩
            go_wp2_with fail
            exact ⟨HR.out, by simp only [intOf]; omega⟩
        · obtain rfl : k = ns.length := by omega
          obtain ⟨Aw, cw, rfl⟩ := own_ctor (hp.rowAt ((Pc.Ent.right _ _).trans (Pc.Ent.left _ _)))
          obtain ⟨Av, cv, rfl⟩ := own_ctor (hp.rowAt ((Pc.Ent.right _ _).trans (Pc.Ent.right _ _)))
          have HP9 : Hid (Post (S6 (.slice Aw P.length cw) (.slice Av P.length cv) P (BkA wr.heap.size [] [] [])) w [] (wr.alloc (.cells #[.slice none 0 0, .slice none 0 0, .slice none 0 0, .slice none 0 0, .slice none 0 0, .slice none 0 0] 45))) := Lib.hid ((hp.alloc _).ent ((bkA_new _).mono (Pc.Ent.refl _)))
          clear hp HP
          go_wp2_with fail
          generalize wr.alloc (.cells #[.slice none 0 0, .slice none 0 0, .slice none 0 0, .slice none 0 0, .slice none 0 0, .slice none 0 0] 45) = w3 at *
          generalize wr.heap.size = b at *
          have HRr : Hid (RelW2 w b L.length P.length (.slice Aw P.length cw) (.slice Av P.length cv) (.int .i64 (0 : Int)) w3) := Lib.hid ⟨0, P, [], [], by omega, rfl, rfl, by simp, by simp, HP9.out⟩
          clear HP9
          have hPl : P.length ≤ 10000 := by omega
          generalize P.length = m at *
          go_loopw [14] (fun i wr => RelW2 w b L.length m (.slice Aw m cw) (.slice Av m cv) i wr) (fun i _ => L.length - (intOf i).toNat)
          case atStart => exact HRr.out
          case round =>
            obtain ⟨k, P, E, H, hk, rfl, hPm, hE, hH, hp⟩ := hrel
            have HP := Lib.hid hp
            have HPM := Lib.hid hPm
            have HH := Lib.hid hH
            clear HRr
            rcases Nat.lt_or_ge k L.length with hlt | hge
            · rcases Nat.eq_zero_or_pos m with hm0 | hmp
              · subst hm0
                have HR3 : Hid (RelW3 w b 0 (.slice Aw 0 cw) (.slice Av 0 cv) (.int .i64 (0 : Int)) wr) := Lib.hid ⟨0, P, E, H, [], by omega, rfl, hPm, by omega, hH, by simp, by simp, hp⟩
                clear hp hPm hH
                go_wp2_with fail
                go_loopw [18] (fun i wr => RelW3 w b 0 (.slice Aw 0 cw) (.slice Av 0 cv) i wr) (fun i _ => 0)
                case atStart => exact HR3.out
                case round =>
                  obtain ⟨k, P, E, H, I, hk, rfl, hPm, hE, hH, hI, hIb, hp⟩ := hrel
                  have HEN := Lib.hid (S6.ends hp (by omega) hH hIb)
                  obtain rfl : k = 0 := by omega
                  clear hp hPm hH hIb HR3
                  go_wp2_with fail
                  refine HEN.out.mono ?_; rintro e w9 ⟨rfl, hm9⟩
                  have HM9 := Lib.hid hm9
                  clear hm9
                  go_wp2_with fail
                  go_ret
                  exact ⟨rfl, HM9.out⟩
              · obtain ⟨⟨o, vo⟩, hpp⟩ : ∃ x, L[k]? = some x := ⟨_, List.getElem?_eq_getElem hlt⟩
                obtain ⟨g, off, e9, hrg⟩ := (HL.out.mods hp.mods).at k (o, vo) hpp
                subst e9
                have hmem := List.mem_of_getElem? hpp
                have hin := HI.out (o, vo) hmem
                obtain ⟨Ab, cb, hvo, -⟩ := rd_slice hin.2
                simp only at hvo
                subst hvo
                have HIN := Lib.hid hin
                have d0 : wr.cell? ⟨g, off + k * 6, none⟩ = some (.int .i64 o.who) := hrg 0 _ rfl
                have d1 : wr.cell? ⟨g, off + k * 6 + 1, none⟩ = some (.int .i64 o.kind) := hrg 1 _ rfl
                have d2 : wr.cell? ⟨g, off + k * 6 + 2, none⟩ = some (.int .u64 (o.n : Int)) := hrg 2 _ rfl
                have d3 : wr.cell? ⟨g, off + k * 6 + 3, none⟩ = some (.int .i64 o.k) := hrg 3 _ rfl
                have d4 : wr.cell? ⟨g, off + k * 6 + 4, none⟩ = some (.slice Ab o.b.length cb) := hrg 4 _ rfl
                have d5 : wr.cell? ⟨g, off + k * 6 + 5, none⟩ = some (.string o.s) := hrg 5 _ rfl
                have HNN := Lib.hid (HN1.out (o, .slice Ab o.b.length cb) hmem)
                clear hin hpp hrg hmem
                have hj : pickN o.who m < m := by unfold pickN; exact Nat.mod_lt _ hmp
                have HPK := Lib.hid (pick_any o.who m wr HIN.out.1.who.1 HIN.out.1.who.2 hmp (by omega))
                generalize pickN o.who m = j at *
                obtain ⟨x, hx⟩ : ∃ x, P[j]? = some x := ⟨_, List.getElem?_eq_getElem (by omega)⟩
                obtain ⟨gw, cw', e1, q1, -⟩ := row_cell (S6.row hp).1 (i := j) (x := x.p) (by rw [List.getElem?_map, hx]; rfl)
                obtain ⟨gv, cv', e2, q2, -⟩ := row_cell (S6.row hp).2 (i := j) (x := x.q) (by rw [List.getElem?_map, hx]; rfl)
                have e1' := (Value.slice.inj e1).1
                have e2' := (Value.slice.inj e2).1
                subst e1'
                subst e2'
                clear e1 e2
                unfold Pair.p at q1
                unfold Pair.q at q2
                have HST := Lib.hid (S6.step (hp.still ((Mods.refl [] wr).drew)) hx HT.out o HIN.out.1 HNN.out.1 HNN.out.2 HIN.out.2)
                have hwf := S6.wf hp hx
                have HWF := Lib.hid hwf
                clear hp hPm hH hwf
                have HX := Lib.hid hx
                clear hx
                go_wp2_with fail
                refine HPK.out.mono ?_; rintro e w9 ⟨rfl, rfl⟩
                go_upto_region 23 with fail
                go_cut [16] from 94 to 107 (fun is w' => is = .bool true ∧ ∃ I : List It, I.map It.bs = x.S.outs o ∧ Post (S6 (.slice (some ⟨gw, 0, none⟩) m cw) (.slice (some ⟨gv, 0, none⟩) m cv) (P.set j ⟨x.a, x.c, x.S.wr o⟩) (BkA b E H I)) w [] w')
                case first =>
                  go_region_with (go_at_call 25; refine HST.out.mono ?_; rintro e w9 ⟨rfl, hI9⟩; have HI9 := Lib.hid hI9; clear hI9; go_simp)
                  all_goals
                    go_wp2_with fail
                    go_meet
                    case rel => exact ⟨rfl, HI9.out⟩
                case rest =>
                  obtain ⟨rfl, I, hI, hp9⟩ := hcut
                  rename World => w9
                  have hIl : I.length ≤ 2 := by rw [← List.length_map (f := It.bs), hI]; exact outs_len _ _
                  have hIb : ∀ y ∈ I, y.bs.length ≤ 100000000 := fun y hy => by
                    have hm : y.bs ∈ x.S.outs o := by rw [← hI]; exact List.mem_map_of_mem hy
                    unfold WSt.outs at hm
                    split at hm
                    · simp at hm
                      obtain ⟨vb, vo, hiw⟩ := HWF.out
                      have h1 := done_len hiw.wf
                      have h2 := hiw.wf.limit
                      have h3 := hiw.wf.bytes
                      rw [hm]
                      omega
                    · cases hm
                  have HT9 := Lib.hid (S6.turn hp9 (by omega) HH.out)
                  have HIB := Lib.hid hIb
                  clear hp9 hI hIb d0 d1 d2 d3 d4 d5 q1 q2
                  go_wp2_with fail
                  refine HT9.out.mono ?_; rintro e w10 ⟨rfl, E', hE', hp10⟩
                  have HR : Hid (RelW2 w b L.length m (.slice (some ⟨gw, 0, none⟩) m cw) (.slice (some ⟨gv, 0, none⟩) m cv) (.int .i64 ((k : Int) + 1)) w10) := Lib.hid ⟨k + 1, _, E', I, by omega, rfl, by rw [List.length_set]; exact HPM.out, by omega, HIB.out, hp10⟩
                  clear hp10 HT9
                  go_wp2_with fail
                  exact ⟨HR.out, by simp only [intOf]; omega⟩
            · have HR3 : Hid (RelW3 w b m (.slice Aw m cw) (.slice Av m cv) (.int .i64 (0 : Int)) wr) := Lib.hid ⟨0, P, E, H, [], by omega, rfl, hPm, by omega, hH, by simp, by simp, hp⟩
              clear hp hPm hH
              go_wp2_with fail
              go_loopw [18] (fun i wr => RelW3 w b m (.slice Aw m cw) (.slice Av m cv) i wr) (fun i _ => m - (intOf i).toNat)
              case atStart => exact HR3.out
              case round =>
                obtain ⟨j, P, E, H, I, hj, rfl, hPm, hE, hH, hI, hIb, hp⟩ := hrel
                have HP := Lib.hid hp
                have HPM := Lib.hid hPm
                have HH := Lib.hid hH
                have HIB := Lib.hid hIb
                clear HR3
                rcases Nat.lt_or_ge j m with hlt3 | hge3
                · obtain ⟨x, hx⟩ : ∃ x, P[j]? = some x := ⟨_, List.getElem?_eq_getElem (by omega)⟩
                  obtain ⟨gw, cw', e1, q1, -⟩ := row_cell (S6.row hp).1 (i := j) (x := x.p) (by rw [List.getElem?_map, hx]; rfl)
                  obtain ⟨gv, cv', e2, q2, -⟩ := row_cell (S6.row hp).2 (i := j) (x := x.q) (by rw [List.getElem?_map, hx]; rfl)
                  have e1' := (Value.slice.inj e1).1
                  have e2' := (Value.slice.inj e2).1
                  subst e1'
                  subst e2'
                  clear e1 e2
                  unfold Pair.p at q1
                  unfold Pair.q at q2
                  have HST := Lib.hid (S6.done (hp.still ((Mods.refl [] wr).drew)) hx (by omega))
                  have HX := Lib.hid hx
                  clear hp hPm hH hIb hx
                  go_upto_region 30 with fail
                  go_cut [19] from 122 to 131 (fun is w' => is = .bool true ∧ ∃ I' : List It, I'.map It.bs = I.map It.bs ++ [x.S.done.1] ++ [x.S.done.1] ∧ Post (S6 (.slice (some ⟨gw, 0, none⟩) m cw) (.slice (some ⟨gv, 0, none⟩) m cv) P (BkA b E H I')) w [] w')
                  case first =>
                    go_region_with (go_at_call 27; refine HST.out.mono ?_; rintro e w9 ⟨rfl, hI9⟩; have HI9 := Lib.hid hI9; clear hI9; go_simp)
                    all_goals
                      go_wp2_with fail
                      go_meet
                      case rel => exact ⟨rfl, HI9.out⟩
                  case rest =>
                    obtain ⟨rfl, I', hI', hp9⟩ := hcut
                    rename World => w9
                    clear q1 q2
                    have q1 := row_cell_at (S6.row hp9).1 (i := j) (x := x.p) (by rw [List.getElem?_map, HX.out]; rfl)
                    have q2 := row_cell_at (S6.row hp9).2 (i := j) (x := x.q) (by rw [List.getElem?_map, HX.out]; rfl)
                    unfold Pair.p at q1
                    unfold Pair.q at q2
                    obtain ⟨vb, vo, hiw⟩ := S6.wf hp9 HX.out
                    obtain ⟨vb2, vo2, hiw2⟩ := S6.wf2 hp9 HX.out
                    have hd := items_grow hI' (by
                      have h1 := done_len hiw.wf
                      have h2 := hiw.wf.limit
                      have h3 := hiw.wf.bytes
                      omega) HIB.out
                    have HLA : Hid (∀ n, Calls Tryd.prog 28 #[.pointer (some ⟨x.a, 0, none⟩)] (w9.drewN n) fun e w'' => e = .returned (.int .i64 (x.S.bytes.length : Int)) ∧ ∃ m, w'' = w9.drewN m) := Lib.hid (fun n => (len_any (hiw.mods ((Mods.refl [] w9).drewN n) (by simp))).mono fun e w'' h => ⟨h.1, n, h.2.symm⟩)
                    have HLB : Hid (∀ n, Calls Tryd.prog 29 #[.pointer (some ⟨x.c, 0, none⟩)] (w9.drewN n) fun e w'' => e = .returned (.int .i64 (x.S.bytes.length : Int)) ∧ ∃ m, w'' = w9.drewN m) := Lib.hid (fun n => (vlen_any (hiw2.mods ((Mods.refl [] w9).drewN n) (by simp))).mono fun e w'' h => ⟨h.1, n, h.2.symm⟩)
                    have HRn : Hid (∀ n, RelW3 w b m (.slice (some ⟨gw, 0, none⟩) m cw) (.slice (some ⟨gv, 0, none⟩) m cv) (.int .i64 ((j : Int) + 1)) (w9.drewN n)) := Lib.hid (fun n => ⟨j + 1, P, E, H, I', by omega, rfl, HPM.out, hE, HH.out, by omega, hd.2, hp9.still ((Mods.refl [] w9).drewN n)⟩)
                    clear hp9 hI' hiw hiw2 hd
                    go_wp2_with fail
                    go_quiet (first | exact HLA.out _ | exact HLB.out _)
                    go_wp2_with fail
                    exact ⟨HRn.out _, by simp only [intOf]; omega⟩
                · have HEN := Lib.hid (S6.ends hp (by omega) hH hIb)
                  obtain rfl : j = m := by omega
                  clear hp hPm hH hIb
                  go_wp2_with fail
                  refine HEN.out.mono ?_; rintro e w9 ⟨rfl, hm9⟩
                  have HM9 := Lib.hid hm9
                  clear hm9
                  go_wp2_with fail
                  go_ret
                  exact ⟨rfl, HM9.out⟩
    · clear HS1 HM1
      go_wp2_with fail
      go_ret
      exact ⟨rfl, HW1.out⟩
  · have hn' : 10000 < ns.length := by omega
    clear hn
    go_wp2_with fail
    go_ret
    exact ⟨rfl, Mods.refl _ _⟩
end Go.Proofs.YtedddekkbgaolaaDoor
