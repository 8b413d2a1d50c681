/- The walk of WireReads. -/
import Derived.Test.YtedddekkbgaolaaDoorRf
import Derived.Test.YtedddekkbgaolaaDoorPr
import Derived.Deep.RegionLaw
namespace Go.Proofs.YtedddekkbgaolaaDoor
open Go.RowKit Me

def RelR1 (w : World) (hb b n : Nat) (i : Value) (wr : World) : Prop :=
  ∃ (k : Nat) (P : List RQ) (vr vv : Value), k ≤ n ∧ i = .int .i64 k ∧ P.length = k ∧ (∀ y ∈ P, y.S.bytes.length ≤ 33554432) ∧ Post (StR hb b vr vv P [] [] []) w [] wr
def RelR2 (w : World) (hb b n m : Nat) (i : Value) (wr : World) : Prop :=
  ∃ (k : Nat) (P : List RQ) (vr vv : Value) (E : List En) (H : List It), k ≤ n ∧ i = .int .i64 k ∧ P.length ≤ m + k ∧ (∀ y ∈ P, y.S.bytes.length ≤ 33554432) ∧ E.length + 5 * H.length ≤ 5 * k ∧ (∀ x ∈ H, x.bs.length ≤ 100000000) ∧ Post (StR hb b vr vv P E H []) w [] wr
def RelR3 (w : World) (X : Pc) (n : Nat) (i : Value) (wr : World) : Prop := ∃ k : Nat, k ≤ n ∧ i = .int .i64 k ∧ Post X w [] wr
theorem ent_book (h b : Pc) : Pc.Ent (h.star (b.star Pc.emp)) (h.star b) := (Pc.Ent.refl _).mono (Pc.Ent.left _ _)
theorem str_new {w0 w' : World} {hb b : Nat} {vr vv : Value} {P : List RQ} {E : List En} {H I : List It} {a c : Nat} {va vc : Value} {S : RSt}
    (h : Post ((Hn hb #[vr, vv, .pointer (some ⟨b, 0, none⟩)] vr vv (P.map RQ.p ++ [.pointer (some ⟨a, 0, none⟩)]) (P.map RQ.q ++ [.pointer (some ⟨c, 0, none⟩)])).star ((RsP 130 (P.map RQ.w ++ [⟨a, S, va⟩])).star ((RsP 132 (P.map RQ.d ++ [⟨c, S, vc⟩])).star (BkA b E H I)))) w0 [] w') : Post (StR hb b vr vv (P ++ [⟨a, va, c, vc, S⟩]) E H I) w0 [] w' := by
  unfold StR
  simp only [List.map_append, List.map_cons, List.map_nil]
  exact h.ent (ent_hand' _ _ _ _)
set_option maxRecDepth 100000 in
set_option maxHeartbeats 2000000 in
theorem reads_law {w : World} (hT : Lib.Utf8Tabs 0 1 w) (L0 : List (List UInt8 × Value)) {v0 v1 : Value} (h0 : Txts w v0 L0) (L : List (OpP × Value)) (h1 : Ops w v1 L) (i1 : ∀ p ∈ L, OpIn w p) (l1 : L.length ≤ 70000000000000) :
    Calls Tryd.prog 8 #[v0, v1] w fun e w' => e = .returned (.bool true) ∧ Mods [] w w' := by
  have HT := Lib.hid hT
  have HL := Lib.hid h1
  have HI := Lib.hid i1
  have HM1 := Lib.hid (much_any L h1 i1 l1)
  have HM0 := Lib.hid (many_any L0 h0)
  have HE := Lib.hid h0.each
  have hr0 := h0.row
  have HR0 := Lib.hid hr0
  obtain ⟨A0, c0, rfl, -⟩ := hr0
  obtain ⟨A1, c1, rfl, -⟩ := h1
  rw [List.length_map] at HM0 HR0 ⊢
  clear hT i1 h0
  go_enter Tryd.func8, Tryd.ntmps8
  go_wp2_with fail
  refine HM0.out.mono ?_; rintro e w1 ⟨m0, hm0, hb0, rfl, rfl⟩
  have HS0 := Lib.hid hm0
  clear hm0
  go_wp2_with fail
  refine HM1.out.mono ?_; rintro e w1 ⟨m1, hm1, hb1, rfl, hw1⟩
  have HS1 := Lib.hid hm1
  have HW1 := Lib.hid hw1
  clear hm1 hw1
  by_cases hroom : m0 + m1 ≤ 33554432
  · have hs0 := HS0.out (by omega)
    have hs1 := HS1.out (by omega)
    have hl0 := hs0.1
    have hl1 := hs1.1
    have HN0 := Lib.hid hs0.2
    have hr' : ¬ ((33554432 : Int) < (m0 : Int) + (m1 : Int)) := by omega
    clear hs0 hs1 HS0 HS1 HM0 HM1
    go_wp2_with fail
    refine (known_any w1 (tabs_mods HW1.out HT.out)).mono ?_; rintro e w2 ⟨rfl, hw2⟩
    have hp0 : Post (StR (w2.heap.size + 1) w2.heap.size (.slice none 0 0) (.slice none 0 0) [] [] [] []) w [] ((w2.alloc (.cells #[.slice none 0 0, .slice none 0 0, .slice none 0 0, .slice none 0 0, .slice none 0 0, .slice none 0 0] 45)).alloc (.cells #[.slice none 0 0, .slice none 0 0, .pointer (some ⟨w2.heap.size, 0, none⟩)] 59)) := by
      have h1 : Post Pc.emp w [] w2 := ⟨[], rfl, HW1.out.trans hw2 (by simp), by simp⟩
      have h2 := (h1.alloc (.cells #[.slice none 0 0, .slice none 0 0, .slice none 0 0, .slice none 0 0, .slice none 0 0, .slice none 0 0] 45)).alloc (.cells #[.slice none 0 0, .slice none 0 0, .pointer (some ⟨w2.heap.size, 0, none⟩)] 59)
      have h3 := h2.ent ((ent_book _ _).trans (stNew _ _))
      simpa using h3
    have HP0 := Lib.hid hp0
    clear hp0 hw2 HW1
    go_wp2_with fail
    generalize ((w2.alloc (.cells #[.slice none 0 0, .slice none 0 0, .slice none 0 0, .slice none 0 0, .slice none 0 0, .slice none 0 0] 45)).alloc (.cells #[.slice none 0 0, .slice none 0 0, .pointer (some ⟨w2.heap.size, 0, none⟩)] 59)) = w3 at *
    generalize hbb : w2.heap.size + 1 = hb at *
    generalize w2.heap.size = b at *
    clear hbb
    go_loopw [7] (fun i wr => RelR1 w hb b L0.length i wr) (fun i _ => L0.length - (intOf i).toNat)
    case atStart => exact ⟨0, [], _, _, by omega, rfl, rfl, by simp, HP0.out⟩
    case round =>
      obtain ⟨k, P, vr, vv, hk, rfl, hP, hPb, hp⟩ := hrel
      subst hP
      have HP := Lib.hid hp
      have HPB := Lib.hid hPb
      clear HP0
      rcases Nat.lt_or_ge P.length L0.length with hlt | hge
      · obtain ⟨⟨bs, vo⟩, hpp⟩ : ∃ p, L0[P.length]? = some p := ⟨_, List.getElem?_eq_getElem hlt⟩
        have hx := (HE.out (bs, vo) (List.mem_of_getElem? hpp)).1
        have hbl := HN0.out (bs, vo) (List.mem_of_getElem? hpp)
        simp only at hx hbl
        obtain ⟨A9, c9, e9, -, -, hcs⟩ := HR0.out.mods hp.mods (by simp)
        have e9' := (Value.slice.inj e9).1
        subst e9'
        obtain ⟨g0, o0, rfl, d0⟩ := hcs P.length vo (by rw [List.getElem?_map, hpp]; rfl)
        obtain ⟨Ab, cb, hvo, -⟩ := rd_slice hx
        subst hvo
        have HX := Lib.hid hx
        have d00 : w.cell? ⟨g0, o0 + P.length, none⟩ = some (.slice Ab bs.length cb) := by
          obtain ⟨A8, c8, e8, -, -, hcs8⟩ := HR0.out
          obtain ⟨g8, o8, e8', h8⟩ := hcs8 P.length (.slice Ab bs.length cb) (by rw [List.getElem?_map, hpp]; rfl)
          have e8'' := (Value.slice.inj e8).1
          rw [e8'] at e8''
          simp only [Option.some.injEq, Addr.mk.injEq, and_true] at e8''
          obtain ⟨rfl, rfl⟩ := e8''
          exact h8
        have HD : Hid (∀ w' : World, Mods [] w w' → w'.cell? ⟨g0, o0 + P.length, none⟩ = some (.slice Ab bs.length cb)) := Lib.hid (fun w' hm => by rw [hm.cell (World.block_lt_of_cell? _ _ d00) (by simp)]; exact d00)
        clear e9 hcs hx hpp hp hPb d00
        go_wp2_with fail
        refine (lent_any bs (HX.out.mods HP.out.mods (by simp)) (by omega)).mono ?_; rintro e w4 ⟨v, rfl, ho, hm, -⟩
        have ho0 := ownsRow_base ho (Nat.zero_le _)
        have hm0 : Mods [] wr w4 := by simpa [Value.ownBlock] using hm
        have hp4 := HP.out.add (q := Pc.row 5 1 v (bs ++ marks).length ((bs ++ marks).map byteV)) hm0 ⟨ho0, rfl⟩ (fun k hk => (ho.lt k (by simpa using hk)).1)
        have HP4 := Lib.hid hp4
        have d1 : w4.cell? ⟨g0, o0 + P.length, none⟩ = some (.slice Ab bs.length cb) := by rw [hm0.cell (World.block_lt_of_cell? _ _ d0) (by simp)]; exact d0
        rw [marked] at ho0
        rcases ownsRow_form ho0 with ⟨_, h0, _⟩ | ⟨g, cap, rfl, hnc, hcm, hg, _⟩
        · omega
        have hr := (Rd.of_own ho0).pre bs.length (by simp)
        rw [← List.map_take, marked_take] at hr
        have HR := Lib.hid hr
        clear ho ho0 hm hm0 hp4 hr d0
        go_wp2_with fail
        refine (newReader_any bs HR.out (by omega)).mono ?_; rintro e w5 ⟨a, va, rfl, hi, hown, ha, hm⟩
        have hp5 := ((HP4.out.ent (Pc.Ent.swap _ _ _)).step (fun F1 hF => RsP.new (Post.start hF) hm hi (fun q hq => hown.lt q hq) ha)).ent (Pc.Ent.swap _ _ _)
        have HP5 := Lib.hid hp5
        have d2 : w5.cell? ⟨g0, o0 + P.length, none⟩ = some (.slice Ab bs.length cb) := by rw [hm.cell (World.block_lt_of_cell? _ _ d1) (by simp)]; exact d1
        clear hi hown ha hm hp5 d1
        go_wp2_with fail
        refine (HP5.out.call (q := Pc.emp) (x := .bool true) fun F1 hF => (kept_any bs (by rw [marked] at hF ⊢; exact hF.1) (HX.out.mods HP5.out.mods (by simp)) (by omega)).mono fun e w' hh => ⟨hh.1, [], rfl, by rw [hF.2]; exact hh.2, by simp⟩).mono ?_; rintro e w6 ⟨rfl, hp6⟩
        have hp6' := (hp6.ent (Pc.Ent.right _ _)).ent (ent_hand _ _ _ _)
        have HP6 := Lib.hid hp6'
        have hr6 := Hn.r hp6'
        have hv6 := Hn.v hp6'
        rw [List.length_map] at hr6 hv6
        have HR6 := Lib.hid hr6
        obtain ⟨Ar, cr, rfl⟩ := own_ctor hr6
        obtain ⟨Av, cv, rfl⟩ := own_ctor hv6
        have hx6 := HX.out.mods HP6.out.mods (by simp)
        obtain ⟨k0, k1, k2, f0, f1⟩ := hand3 (Hn.cells hp6')
        obtain ⟨i0, hi, hz0, hz1, hz2⟩ := info_parts info61
        obtain ⟨i1, hj1, hy0, hy1, hy2⟩ := info_parts info64
        clear hp6 hp6' hr6 hv6 d2 HP HP4 HP5 HR hx6
        go_wp2_with (at_builtin; go_must (refine wpList_app _ rfl _ _ 56 56 rfl 0 61 i0 (.pointer none) 1 8 Tryd.underlying56 hi hz0 hz1 hz2 rfl _ _ _ rfl (HR6.out.alloc _) _ 1 [.pointer (some ⟨a, 0, none⟩)] rfl ?e1 ?e2 ?e3 ?e4 ?_))
        case e1 => exact src_one Tryd.underlying56 _ _ _ rfl
        case e2 => unfold maxLen; omega
        case e3 => omega
        case e4 => exact Nat.zero_le _
        intro vr2 w7 hown hgrow hat
        have hp7 := Hn.pushr HP6.out (row_turn (by rw [List.length_map]; exact hown) hgrow (by simpa using hat))
        obtain ⟨Ar2, cr2, rfl⟩ := own_ctor hown
        clear k0 k1 k2 f0 f1
        obtain ⟨k0, k1, k2, f0, f1⟩ := hand3 (Hn.cells hp7)
        have hp8 := Hn.set hp7 0 (.slice Ar2 (P.length + 1) cr2)
        have HP8 := Lib.hid hp8
        clear hp7 hp8 hown hgrow hat HP6 HR6 k1 k2 f1
        go_wp2_with fail
        generalize w7.setCell ⟨hb, 0, none⟩ (.slice Ar2 (P.length + 1) cr2) = w8 at *
        clear k0 f0
        have hp8 := HP8.out
        obtain ⟨k0, k1, k2, f0, f1⟩ := hand3 (Hn.cells hp8)
        have d8 := HD.out w8 hp8.mods
        have hm8 : Mods [] w w8.drew := hp8.mods.drew
        have HQ := Lib.hid (qnew_any bs (w := w8.drew) (HX.out.mods hm8 (by simp)) (by omega))
        have HQR : Hid (∀ e w', NewPost 132 w8.drew bs e w' → ∃ v, e = .returned v ∧ ∃ (c : Nat) (vc : Value), v = .pointer (some ⟨c, 0, none⟩) ∧ Post ((Hn hb #[.slice Ar2 (P.length + 1) cr2, .slice Av P.length cv, .pointer (some ⟨b, 0, none⟩)] (.slice Ar2 (P.length + 1) cr2) (.slice Av P.length cv) (P.map RQ.p ++ [.pointer (some ⟨a, 0, none⟩)]) (P.map RQ.q)).star ((RsP 130 (P.map RQ.w ++ [⟨a, RSt.new bs, va⟩])).star ((RsP 132 (P.map RQ.d ++ [⟨c, RSt.new bs, vc⟩])).star (BkA b [] [] [])))) w [] w') := Lib.hid (by
          rintro e w' ⟨c, vc, rfl, hi, hown, ha, hm⟩
          refine ⟨_, rfl, c, vc, rfl, ?_⟩
          exact (RsP.newS ((hp8.still ((Mods.refl [] w8).drew)).ent (Pc.Ent.at3 _ _ _ _)) hm hi (fun q hq => hown.lt q hq) ha).ent (ent_raw' _ _ _ _))
        have hn37 : (Tryd.f37.name == "runtime.NumGoroutine") = false := by kernel_rfl
        obtain ⟨c37, hb37⟩ : ∃ c, Tryd.f37.body = some c := ⟨_, rfl⟩
        clear hp8 hm8
        go_region_law (first
          | (refine step_app rfl _ _ 57 57 rfl 0 64 i1 (.pointer none) 1 8 Tryd.underlying57 hj1 hy0 hy1 hy2 rfl (.slice Av P.length cv) P.length (P.map RQ.q) rfl (HV9.out.alloc _) (.slice (some ⟨w9.heap.size, 0, none⟩) 1 1) 1 [.pointer (some ⟨c, 0, none⟩)] rfl (src_one Tryd.underlying57 _ _ _ rfl) (by unfold maxLen; omega) (by omega) (Nat.zero_le _) ?_; intro vv2 w10 hown hgrow hat; have hp10 := Hn.pushv HP9.out (row_turn (by rw [List.length_map]; exact hown) hgrow (by simpa using hat)); have HP10 := Lib.hid hp10; obtain ⟨Av2, cv2, rfl⟩ := own_ctor hown; obtain ⟨m0', m1', m2', n0', n1'⟩ := hand3 (Hn.cells hp10); clear hown hgrow hat hp10)
          | (refine step_call rfl _ 37 _ rfl Tryd.func37 hn37 hb37 _ rfl HQ.out HQR.out ?_; intro v9 w9 hv9; obtain ⟨c, vc, hv9e, hp9⟩ := hv9; subst hv9e; have HP9 := Lib.hid hp9; have hv9 := Hn.v hp9; rw [List.length_map] at hv9; have HV9 := Lib.hid hv9; obtain ⟨l0', l1', l2', p0', p1'⟩ := hand3 (Hn.cells hp9); have l1a : (w9.alloc (.cells #[.pointer (some ⟨c, 0, none⟩)] 64)).cell? ⟨hb, 1, none⟩ = some (.slice Av P.length cv) := (by rw [((Mods.refl [] w9).alloc _).cell (World.block_lt_of_cell? _ _ l1') (by simp)]; exact l1'); clear hp9 hv9))
        all_goals
          have HR9 : Hid (RelR1 w hb b L0.length (.int .i64 ((P.length : Int) + 1)) (w10.setCell ⟨hb, 1, none⟩ (.slice Av2 (P.length + 1) cv2))) := Lib.hid ⟨P.length + 1, P ++ [⟨a, va, c, vc, RSt.new bs⟩], _, _, by omega, rfl, by simp, fun y hy => by
            rcases List.mem_append.1 hy with hy | hy
            · exact HPB.out y hy
            · simp at hy
              subst hy
              exact hbl, str_new (Hn.set HP10.out 1 (.slice Av2 (P.length + 1) cv2))⟩
          go_wp2_with fail
          exact ⟨HR9.out, by simp only [intOf]; omega⟩
      · have HR2 : Hid (RelR2 w hb b L.length L0.length (.int .i64 (0 : Int)) wr) := Lib.hid ⟨0, P, vr, vv, [], [], by omega, rfl, by omega, hPb, by simp, by simp, hp⟩
        clear hp HP hPb HPB hk
        go_wp2_with fail
        generalize decide (P.length < L0.length) = t32
        go_loopw [11] (fun i wr => RelR2 w hb b L.length L0.length i wr) (fun i _ => L.length - (intOf i).toNat)
        case atStart => exact HR2.out
        case round =>
          obtain ⟨k, Q, vr, vv, E, H, hk, rfl, hQ, hQb, hEH, hH, hp⟩ := hrel
          have hh := hp.ent (ent_hand _ _ _ _)
          have hr6 := Hn.r hh
          have hv6 := Hn.v hh
          rw [List.length_map] at hr6 hv6
          obtain ⟨Ar, cr, rfl⟩ := own_ctor hr6
          obtain ⟨Av, cv, rfl⟩ := own_ctor hv6
          have HP := Lib.hid hp
          have HQB := Lib.hid hQb
          have HH := Lib.hid hH
          obtain ⟨k0, k1, k2, f0, f1⟩ := hand3 (Hn.cells hh)
          clear hh hr6 hv6 hp hQb hH HR2
          rcases Nat.lt_or_ge k L.length with hlt | hge
          · rcases Nat.eq_zero_or_pos Q.length with hz | hpos
            · generalize hm : Q.length = m at *
              have HQM := Lib.hid hm
              clear hm
              subst hz
              have HR3 : Hid (RelR3 w (StR hb b (.slice Ar 0 cr) (.slice Av 0 cv) Q E H []) 0 (.int .i64 (0 : Int)) wr) := Lib.hid ⟨0, by omega, rfl, HP.out⟩
              have hEB : E.length + 5 * H.length ≤ 50000000 := by omega
              clear HP
              go_wp2_with fail
              clear k0 k1 k2 f0 f1
              go_loopw [14] (fun i wr => RelR3 w (StR hb b (.slice Ar 0 cr) (.slice Av 0 cv) Q E H []) 0 i wr) (fun i _ => 0 - (intOf i).toNat)
              case atStart => exact HR3.out
              case round =>
                obtain ⟨j, hj, rfl, hp⟩ := hrel
                have hh := hp.ent (ent_hand _ _ _ _)
                obtain ⟨k0, k1, k2, f0, f1⟩ := hand3 (Hn.cells hh)
                rcases Nat.lt_or_ge j 0 with hlt | hge
                · exact absurd hlt (Nat.not_lt_zero _)
                · have HEN := Lib.hid (StR.ends hp (by simp; omega) HH.out (by simp))
                  obtain rfl : j = 0 := by omega
                  clear hp hh
                  go_wp2_with fail
                  refine HEN.out.mono ?_; rintro e w9 ⟨rfl, hm9⟩
                  have HM9 := Lib.hid hm9
                  clear hm9
                  go_wp2_with fail
                  go_ret
                  exact ⟨rfl, HM9.out⟩
            · obtain ⟨⟨o, vo⟩, hpp⟩ : ∃ x, L[k]? = some x := ⟨_, List.getElem?_eq_getElem hlt⟩
              obtain ⟨g, off, e9, hrg⟩ := (HL.out.mods HP.out.mods).at k (o, vo) hpp
              subst e9
              have hmem := List.mem_of_getElem? hpp
              have hin := HI.out (o, vo) hmem
              obtain ⟨Ab, cb, hvo, -⟩ := rd_slice hin.2
              simp only at hvo
              subst hvo
              have d0 : wr.cell? ⟨g, off + k * 6, none⟩ = some (.int .i64 o.who) := hrg 0 _ rfl
              have d1 : wr.cell? ⟨g, off + k * 6 + 1, none⟩ = some (.int .i64 o.kind) := hrg 1 _ rfl
              have d2 : wr.cell? ⟨g, off + k * 6 + 2, none⟩ = some (.int .u64 (o.n : Int)) := hrg 2 _ rfl
              have d3 : wr.cell? ⟨g, off + k * 6 + 3, none⟩ = some (.int .i64 o.k) := hrg 3 _ rfl
              have d4 : wr.cell? ⟨g, off + k * 6 + 4, none⟩ = some (.slice Ab o.b.length cb) := hrg 4 _ rfl
              have d5 : wr.cell? ⟨g, off + k * 6 + 5, none⟩ = some (.string o.s) := hrg 5 _ rfl
              obtain ⟨x, hx⟩ : ∃ x, Q[pickN o.who Q.length]? = some x := ⟨_, List.getElem?_eq_getElem (by unfold pickN; exact Nat.mod_lt _ hpos)⟩
              have HST := Lib.hid (reads_any HP.out o hin.1 hx HT.out (by omega) HQB.out (A := Ab) (nb := o.b.length) (cb := cb))
              clear hin hpp hrg hmem hx
              go_wp2_with fail
              refine HST.out.mono ?_; rintro e w9 ⟨rfl, vr2, vv2, P', I, hP1, hP2, hPb', hI, hIb, hp9⟩
              have hh := hp9.ent (ent_hand _ _ _ _)
              clear k0 k1 k2 f0 f1
              obtain ⟨k0, k1, k2, f0, f1⟩ := hand3 (Hn.cells hh)
              have HT9 := Lib.hid (StR.turn hp9 (by omega) HH.out)
              have HPB := Lib.hid hPb'
              have HIB := Lib.hid hIb
              clear hp9 hh hPb' hIb d0 d1 d2 d3 d4 d5 HST
              go_wp2_with fail
              refine HT9.out.mono ?_; rintro e w10 ⟨rfl, E', hE', hp10⟩
              have HR : Hid (RelR2 w hb b L.length L0.length (.int .i64 ((k : Int) + 1)) w10) := Lib.hid ⟨k + 1, P', vr2, vv2, E', I, by omega, rfl, by omega, HPB.out, by omega, fun x hx => by have := HIB.out x hx; omega, hp10⟩
              clear hp10 HT9
              go_wp2_with fail
              exact ⟨HR.out, by simp only [intOf]; omega⟩
          · generalize hm : Q.length = m at *
            have HQM := Lib.hid hm
            clear hm
            have HR3 : Hid (RelR3 w (StR hb b (.slice Ar m cr) (.slice Av m cv) Q E H []) m (.int .i64 (0 : Int)) wr) := Lib.hid ⟨0, by omega, rfl, HP.out⟩
            have hEB : E.length + 5 * H.length ≤ 50000000 := by omega
            clear HP
            go_wp2_with fail
            clear k0 k1 k2 f0 f1
            go_loopw [14] (fun i wr => RelR3 w (StR hb b (.slice Ar m cr) (.slice Av m cv) Q E H []) m i wr) (fun i _ => m - (intOf i).toNat)
            case atStart => exact HR3.out
            case round =>
              obtain ⟨j, hj, rfl, hp⟩ := hrel
              have hh := hp.ent (ent_hand _ _ _ _)
              obtain ⟨k0, k1, k2, f0, f1⟩ := hand3 (Hn.cells hh)
              rcases Nat.lt_or_ge j m with hlt | hge
              · obtain ⟨x, hx⟩ : ∃ x, Q[j]? = some x := ⟨_, List.getElem?_eq_getElem (by have := HQM.out; omega)⟩
                obtain ⟨g1, q1, e1, d1, -⟩ := row_cell (Hn.r hh) (i := j) (x := x.p) (by rw [List.getElem?_map, hx]; rfl)
                obtain ⟨g2, q2, e2, d2, -⟩ := row_cell (Hn.v hh) (i := j) (x := x.q) (by rw [List.getElem?_map, hx]; rfl)
                have e1' := (Value.slice.inj e1).1
                have e2' := (Value.slice.inj e2).1
                subst e1'
                subst e2'
                unfold RQ.p at d1
                unfold RQ.q at d2
                have HTL : Hid (∀ n, Calls Tryd.prog 39 #[.pointer (some ⟨x.a, 0, none⟩), .pointer (some ⟨x.c, 0, none⟩)] (wr.drewN n) fun e w'' => e = .returned (.bool true) ∧ ∃ q, w'' = wr.drewN q) := Lib.hid (fun n => by
                  have hn := hp.still ((Mods.refl [] wr).drewN n)
                  have i1 : IsR 130 (wr.drewN n) x.a x.S x.va := RsP.is hn (at_w hx)
                  have i2 : IsR 132 (wr.drewN n) x.c x.S x.vc := RsP.is (hn.ent (Pc.Ent.swap _ _ _)) (at_d hx)
                  exact (tells_any i1 i2).mono fun e w'' hh => ⟨hh.1, by obtain ⟨q, rfl⟩ := hh.2; exact ⟨n + q, by rw [World.drewN_drewN]⟩⟩)
                have HN := Lib.hid (fun n => hp.still ((Mods.refl [] wr).drewN n))
                clear hp hh hx e1 e2
                go_wp2_with fail
                go_quiet (exact HTL.out _)
                go_wp2_with fail
                exact ⟨⟨j + 1, by omega, rfl, HN.out _⟩, by simp only [intOf]; omega⟩
              · have HEN := Lib.hid (StR.ends hp (by simp; omega) HH.out (by simp))
                obtain rfl : j = m := by omega
                clear hp hh
                go_wp2_with fail
                refine HEN.out.mono ?_; rintro e w9 ⟨rfl, hm9⟩
                have HM9 := Lib.hid hm9
                clear hm9
                go_wp2_with fail
                go_ret
                exact ⟨rfl, HM9.out⟩
  · have hr' : ((33554432 : Int) < (m0 : Int) + (m1 : Int)) := by omega
    clear HS0 HS1 HM0 HM1
    go_wp2_with fail
    go_ret
    exact ⟨rfl, HW1.out⟩
end Go.Proofs.YtedddekkbgaolaaDoor
