/- The walk of the Book's turn. -/
import Derived.Test.YtedddekkbgaolaaDoorTm
namespace Go.Proofs.YtedddekkbgaolaaDoor
open Go.RowKit Me

set_option maxRecDepth 100000 in
set_option maxHeartbeats 40000000 in
noncomputable def turn_c : {P : Prop // Hid P → ∀ (w : World) (b : Nat) (E : List En) (H I : List It) (F : List Nat), (BkA b E H I).A w F → E.length + 5 * H.length ≤ 100000000 → (∀ x ∈ H, x.bs.length ≤ 100000000) →
    Calls Tryd.prog 26 #[.pointer (some ⟨b, 0, none⟩)] w fun e w' => e = .returned (.bool true) ∧ Post (Pc.ex fun E' => Pc.when (E'.length ≤ E.length + 5 * H.length) (BkA b E' I [])) w F w'} := Subtype.mk _ (by
  intro hPP w b E H I F h hE hH
  obtain ⟨⟨vl, vm, vh, vt, vf, vw⟩, h⟩ := h
  simp only at h
  have hp := Post.start h
  have H0 := Lib.hid hp
  have hb := co_blk hp
  obtain ⟨⟨c0, c1, c2, c3, c4, c5⟩, -⟩ := cells6 hb
  have hl := co_l hp
  have hh := co_h hp
  rw [enV_len] at hl
  rw [List.length_map] at hh
  obtain ⟨Al, cl, rfl⟩ := own_ctor hl
  obtain ⟨Ah, ch, rfl⟩ := own_ctor hh
  have HH := Lib.hid hH
  clear h hp hb hl hh hH
  go_enter Tryd.func26, Tryd.ntmps26
  go_upto_block 0 with fail
  clear c0 c1 c2 c3 c4 c5
  go_cut [3, 5, 6] from 16 (fun ok _ _ w' => ok = .bool true ∧ Post ((CoE b (.slice Al E.length cl) vm (.slice Ah H.length ch) vt vf vw E H I).star ((MkE E).star ((items H).star (items I)))) w F w')
  case first =>
    go_wp2_with fail
    go_loopw [3, 5] (fun ok i wr => RelA ((CoE b (.slice Al E.length cl) vm (.slice Ah H.length ch) vt vf vw E H I).star ((MkE E).star ((items H).star (items I)))) w F H.length ok i wr) (fun _ i _ => H.length - (intOf i).toNat)
    case atStart => exact ⟨0, by omega, rfl, rfl, H0.out⟩
    case round =>
      obtain ⟨k, hk, rfl, rfl, hp⟩ := hrel
      have HP := Lib.hid hp
      obtain ⟨⟨c0, c1, c2, c3, c4, c5⟩, -⟩ := cells6 (co_blk hp)
      rcases Nat.lt_or_ge k H.length with hlt | hge
      · obtain ⟨x, hx⟩ : ∃ x, H[k]? = some x := ⟨_, List.getElem?_eq_getElem hlt⟩
        obtain ⟨g1, q1, e1, d1, -⟩ := row_cell (co_h hp) (i := k) (x := x.v) (by rw [List.getElem?_map, hx]; rfl)
        obtain ⟨g2, q2, e2, d2, -⟩ := row_cell (co_t hp) (i := k) (x := x.u) (by rw [List.getElem?_map, hx]; rfl)
        rw [List.length_map] at e1 e2
        injection e1 with e1 _ e1c
        subst e1
        subst e1c
        subst e2
        obtain ⟨F9, hF9⟩ := (hp.ent ((Pc.Ent.right _ _).trans ((Pc.Ent.right _ _).trans (Pc.Ent.left _ _)))).any
        obtain ⟨r1, r2⟩ := items_at hF9 hx
        have hxb := HH.out x (List.mem_of_getElem? hx)
        have hs : ∀ n, Calls Tryd.prog 73 #[x.v, x.u] (wr.drewN n) fun e w'' => e = .returned (.bool true) ∧ ∃ m, w'' = wr.drewN m := fun n => by
          refine (same_any x.bs x.bs ((Rd.of_own r1).mods ((Mods.refl [] _).drewN n) (by simp)) ((Rd.of_own r2).mods ((Mods.refl [] _).drewN n) (by simp)) (by unfold maxLen; omega) (by unfold maxLen; omega)).mono ?_
          rintro e w' ⟨he, k, rfl⟩
          exact ⟨by rw [he, decide_eq_true (rfl : x.bs = x.bs)], n + k, by rw [World.drewN_drewN]⟩
        have HS := Lib.hid hs
        have HN := Lib.hid (fun n => hp.still ((Mods.refl [] wr).drewN n))
        clear hs hp hF9 r1 r2 hx hxb
        go_wp2_with fail
        go_quiet (exact HS.out _)
        go_wp2_with fail
        exact ⟨⟨k + 1, by omega, rfl, rfl, HN.out _⟩, by simp only [intOf]; omega⟩
      · obtain rfl : k = H.length := by omega
        clear hp
        go_wp2_with fail
        go_meet
        case rel => exact ⟨rfl, HP.out⟩
  case rest =>
    obtain ⟨rfl, hp⟩ := hcut
    have HP1 := Lib.hid hp
    clear hp H0
    rename World => w1
    go_upto_block 2 with fail
    go_cut [7, 8, 9] from 16 (fun _ _ _ w' => ∃ N : List En, N.length = H.length ∧ (∀ e ∈ N, e.n ≤ 100000000) ∧ Post (StN b (.slice Ah H.length ch) vt vf vw E N H I H.length) w F w')
    case first =>
      go_wp2_with fail
      go_loopw [7] (fun i wr => RelB2 b (.slice Ah H.length ch) vt vf vw E H I w F i wr) (fun i _ => H.length - (intOf i).toNat)
      case atStart =>
        refine ⟨0, [], by omega, rfl, rfl, by simp, HP1.out.ent (Pc.Ent.to (.slice Al E.length cl, vm) ?_)⟩
        rw [List.append_nil, List.drop_zero]
        refine (Pc.Ent.refl _).mono ((Pc.Ent.refl _).mono ?_)
        exact (Pc.Ent.emp _).trans (Pc.Ent.comm _ _)
      case round =>
        obtain ⟨k, N, hk, rfl, hN, hNb, hp⟩ := hrel
        subst hN
        obtain ⟨⟨ul, um⟩, hp⟩ := hp.exs
        simp only at hp
        have HP := Lib.hid hp
        have HNB := Lib.hid hNb
        obtain ⟨⟨c0, c1, c2, c3, c4, c5⟩, hfz⟩ := cells6 (co_blk hp)
        have hl := co_l hp
        have hm := co_m hp
        have hh := co_h hp
        rw [enV_len, List.length_append] at hl
        rw [enM_len, List.length_append] at hm
        rw [List.length_map] at hh
        obtain ⟨Al', cl', rfl⟩ := own_ctor hl
        obtain ⟨Am', cm', rfl⟩ := own_ctor hm
        rcases Nat.lt_or_ge N.length H.length with hlt | hge
        · obtain ⟨x, hx⟩ : ∃ x, H[N.length]? = some x := ⟨_, List.getElem?_eq_getElem hlt⟩
          have hdrop : H.drop N.length = x :: H.drop (N.length + 1) := by
            rw [List.drop_eq_getElem_cons hlt]
            congr 1
            have := (List.getElem?_eq_some_iff.1 hx).2
            simp [this]
          have hxb := HH.out x (List.mem_of_getElem? hx)
          rw [hdrop] at hp
          have hp2 := hp.ent (ent_take _ _ _ _ _ _ _)
          have hxv := hp2.rowAt ((Pc.Ent.right _ _).trans (Pc.Ent.left _ _))
          obtain ⟨g1, q1, e1, d1, hq1⟩ := row_cell hh (i := N.length) (x := x.v) (by rw [List.getElem?_map, hx]; rfl)
          injection e1 with e1 _ e1c
          subst e1
          subst e1c
          obtain ⟨xv, xu, bs⟩ := x
          simp only at hxv hxb d1
          obtain ⟨Ax, cx, rfl⟩ := own_ctor hxv
          have hM : ((E.length : Int) + (N.length : Int)) % 251 + 1 = ((UInt8.ofNat ((E.length + N.length) % 251 + 1)).toNat : Int) := by
            rw [UInt8.toNat_ofNat']
            omega
          generalize UInt8.ofNat ((E.length + N.length) % 251 + 1) = M at *
          have HM := Lib.hid hM
          have HP2 := Lib.hid hp2
          have HXX := Lib.hid hx
          clear hp hp2 hl hm hh hxv hx hdrop hNb
          go_wp2_with fail
          first | rw [hM] | skip
          clear hM
          go_loopw [9] (fun i wr => RelC2 (fun xs => (Co b #[.slice Al' (E.length + N.length) cl', .slice Am' (E.length + N.length) cm', .slice (some ⟨g1, 0, none⟩) H.length ch, vt, vf, vw] (.slice Al' (E.length + N.length) cl') (.slice Am' (E.length + N.length) cm') (.slice (some ⟨g1, 0, none⟩) H.length ch) vt vf vw (enV (E ++ N)) (enM (E ++ N)) (H.map It.v) (H.map It.u) (I.map It.v) (I.map It.u)).star ((Pc.row 5 1 (.slice Ax bs.length cx) bs.length xs).star ((MkE E).star ((News N).star ((items (H.drop (N.length + 1))).star (items I)))))) M bs w F i wr) (fun i _ => bs.length - (intOf i).toNat)
          case atStart => exact ⟨0, by omega, rfl, HP2.out⟩
          case round =>
            obtain ⟨j, hj, rfl, hp⟩ := hrel
            have HP3 := Lib.hid hp
            clear c0 c1 c2 c3 c4 c5 hfz
            obtain ⟨⟨c0, c1, c2, c3, c4, c5⟩, hfz⟩ := cells6 (co_blk hp)
            clear d1
            have d1 : wr.cell? ⟨g1, N.length, none⟩ = some (.slice Ax bs.length cx) := row_cell_at (co_h hp) (by rw [List.getElem?_map, HXX.out]; rfl)
            rcases Nat.lt_or_ge j bs.length with hlt2 | hge2
            · have hrow := hp.rowAt ((Pc.Ent.right _ _).trans (Pc.Ent.left _ _))
              obtain ⟨gx, rfl⟩ : ∃ gx, Ax = some ⟨gx, 0, none⟩ := by
                rcases ownsRow_form hrow with ⟨h1, _⟩ | ⟨g', c', h1, _⟩
                · injection h1 with _ h1 _
                  omega
                · injection h1 with h1 _ _
                  exact ⟨g', h1⟩
              obtain ⟨y, hy⟩ : ∃ y, wr.cell? ⟨gx, j, none⟩ = some y := by
                have hxl := hrow.1
                exact ⟨(markL j M ++ (bs.drop j).map byteV)[j]'(by omega), by rw [hrow.cellAt j (by omega)]; exact List.getElem?_eq_getElem _⟩
              have hfy := hrow.frozenAt j
              have hcx : bs.length ≤ cx := by
                obtain ⟨_, _, e, h1, _⟩ := ownsRow_slice hrow
                injection e with _ e2 e3
                omega
              have hset := co_data (p' := Pc.row 5 1 (.slice (some ⟨gx, 0, none⟩) bs.length cx) bs.length ((markL j M ++ (bs.drop j).map byteV).set j (byteV M))) hp (row_set (byteV M))
              rw [mark_step hlt2] at hset
              have HSET := Lib.hid hset
              clear hp hrow hset
              unfold byteV at HSET
              go_wp2_with fail
              exact ⟨⟨j + 1, by omega, rfl, HSET.out⟩, by simp only [intOf]; omega⟩
            · obtain rfl : j = bs.length := by omega
              rw [List.drop_length, List.map_nil, List.append_nil] at hp
              have HP4 := Lib.hid (hp.still ((Mods.refl [] wr).drew))
              have hfz2 := hfz 0
              have hfz3 := hfz 1
              obtain ⟨i1, hj1, hy0, hy1, hy2⟩ := info_parts info43
              obtain ⟨i0, hi0, hz0, hz1, hz2⟩ := info_parts info5
              clear hp HP3
              go_wp2_with fail
              obtain ⟨w3, hw3⟩ : ∃ w3, w3 = wr.drew := ⟨_, rfl⟩
              rw [← hw3] at HP4
              clear c0 c1 c2 c3 c4 c5 d1 hfz hfz2 hfz3
              obtain ⟨⟨c0, c1, c2, c3, c4, c5⟩, -⟩ := cells6 (co_blk HP4.out)
              have d1 : w3.cell? ⟨g1, N.length, none⟩ = some (.slice Ax bs.length cx) := row_cell_at (co_h HP4.out) (by rw [List.getElem?_map, HXX.out]; rfl)
              have hl := co_l HP4.out
              rw [enV_len, List.length_append] at hl
              subst hw3
              have HL := Lib.hid (fun o : Obj => ownsRow_mods (w := wr) hl ((Mods.refl [] wr).alloc o).drew (by simp))
              have c0w : wr.cell? ⟨b, 0, none⟩ = some (.slice Al' (E.length + N.length) cl') := c0
              have c0a : (wr.alloc (.cells #[.slice Ax bs.length cx] 43)).cell? ⟨b, 0, none⟩ = some (.slice Al' (E.length + N.length) cl') := by
                rw [((Mods.refl [] wr).alloc _).cell (World.block_lt_of_cell? _ _ c0w) (by simp)]
                exact c0w
              clear hl c0w
              go_region_law (refine step_app rfl _ _ 42 42 rfl 0 43 i1 (.slice none 0 0) 1 24 Tryd.underlying42 hj1 hy0 hy1 hy2 rfl (.slice Al' (E.length + N.length) cl') (E.length + N.length) (enV (E ++ N)) rfl (HL.out _) (.slice (some ⟨wr.heap.size, 0, none⟩) 1 1) 1 [.slice Ax bs.length cx] rfl (src_drew Tryd.underlying42 _ _ _ rfl) (by unfold maxLen; omega) (by omega) (Nat.zero_le _) ?_; intro vl2 w4 hown hgrow hat; have hp5 := co_pushl HP4.out (row_turn (by rw [enV_len, List.length_append]; exact hown) (grown_drew hgrow) (by simpa using hat)); have HP5 := Lib.hid hp5; obtain ⟨Al2, cl2, rfl⟩ := own_ctor hown; obtain ⟨⟨c0', -, -, -, -, -⟩, hfz'⟩ := cells6 (co_blk hp5); have hfz0 := hfz' 0; clear hown hgrow hat hp5 hfz')
              all_goals
                have hp6 := co_set HP5.out 0 (.slice Al2 (E.length + N.length + 1) cl2)
                have HP6 := Lib.hid hp6
                clear c0 c1 c2 c3 c4 c5 d1 c0a c0' hfz0
                obtain ⟨⟨-, e1, -, -, -, -⟩, hfz6⟩ := cells6 (co_blk hp6)
                have hm6 := co_m hp6
                rw [enM_len, List.length_append] at hm6
                have HM6 := Lib.hid hm6
                clear hp6 hm6
                go_wp2_with (at_builtin; go_must (refine wpList_app _ rfl _ _ 43 43 rfl 0 5 i0 (.int .u8 0) 1 1 Tryd.underlying43 hi0 hz0 hz1 hz2 rfl _ _ _ rfl (HM6.out.alloc _) _ 1 [.int .u8 (M.toNat : Int)] rfl ?e1 ?e2 ?e3 ?e4 ?_))
                case e1 => exact src_at Tryd.underlying43 (w4.setCell ⟨b, 0, none⟩ (.slice Al2 (E.length + N.length + 1) cl2)) [.int .u8 (M.toNat : Int)] 5 _ 1 (size_set _ _ _) rfl (by intro u hu; simp at hu; subst hu; rfl)
                case e2 => unfold maxLen; omega
                case e3 => omega
                case e4 => exact Nat.zero_le _
                intro vm2 w7 hown hgrow hat
                have hp8 := co_pushm HP6.out (row_turn (by rw [enM_len, List.length_append]; exact hown) hgrow (by simpa using hat))
                obtain ⟨Am2, cm2, rfl⟩ := own_ctor hown
                clear e1 hfz6
                obtain ⟨⟨-, e1, -, -, -, -⟩, hfz8⟩ := cells6 (co_blk hp8)
                have hfz9 := hfz8 1
                have hp9 := co_set hp8 1 (.slice Am2 (E.length + N.length + 1) cm2)
                have HR := Lib.hid (stN_next (M := M) hp9 hlt HNB.out hxb)
                clear hown hgrow hat hp8 hp9 hfz8
                go_wp2_with fail
                exact ⟨HR.out, by simp only [intOf]; omega⟩
        · have hN : N.length = H.length := by omega
          have hX : Post (StN b (.slice Ah H.length ch) vt vf vw E N H I N.length) w F wr := HP.out.ent (Pc.Ent.to (_, _) (Pc.Ent.refl _))
          rw [hN] at hX
          have HX := Lib.hid hX
          have HNN := Lib.hid hN
          clear hp hNb hl hm hh hN hX
          go_wp2_with fail
          go_meet
          case rel => exact ⟨N, HNN.out, HNB.out, HX.out⟩
    case rest =>
      obtain ⟨N, hN, hNb, hp⟩ := hcut
      rename World => w2
      have HP2 : Hid (Post (StG b (.slice Ah H.length ch) vt vf vw E N [] [] N H I) w F w2) := Lib.hid (hp.ent (by
        unfold StN StG
        refine Pc.Ent.ex fun v => Pc.Ent.to v ?_
        rw [List.append_nil]
        refine (Pc.Ent.refl _).mono ((Pc.Ent.refl _).mono ?_)
        rw [List.drop_length]
        have e0 : Pc.Ent (items []) (MkE []) := fun w F h => ⟨[], ⟨by simp, rfl⟩, by simp⟩
        exact (Pc.Ent.swap (News N) (items []) (items I)).trans (e0.mono (Pc.Ent.refl _))))
      obtain ⟨⟨ul, um⟩, hp2⟩ := hp.exs
      obtain ⟨⟨c0, -, -, -, -, -⟩, -⟩ := cells6 (co_blk hp2)
      have hl := co_l hp2
      rw [enV_len, List.length_append] at hl
      obtain ⟨Al2, cl2, rfl⟩ := own_ctor hl
      have HNB := Lib.hid hNb
      have HNL := Lib.hid hN
      simp only at c0
      have hNle : N.length ≤ 20000000 := by omega
      have hEle : E.length ≤ 100000000 := by omega
      clear hp hp2 hl hNb HP1 hN
      go_upto_block 6 with fail
      clear c0
      go_cut [11, 12, 13] from 16 (fun _ _ _ w' => ∃ E', E'.length ≤ E.length + 5 * H.length ∧ Post (StF b (.slice Ah H.length ch) vt vf vw E' H I) w F w')
      case first =>
        rename_i K0 hK0 J K1 hJ hK1
        clear hK0 K0
        revert w b E H I F vm vt vf vw Al cl Ah ch u5 u6 w2 u7 u8 u9 u16 u17 u18 u19 u20 u21 u22 u23 u24 u25 u26 u27 u28 u29 u30 u31 u32 u33 u34 u35 u36 u37 u38 u39 u40 u41 u42 u43 u44 u45 u46 u47 u48 u49 u50 u51 u52 u53 u54 u55 u56 u57 u58 u59 u60 u61 u62 u63 u64 u65 u66 u67 u68 u69 u70 u71 u72 u73 u74 u75 u76 u77 u78 u79 u80 u81 u82 u83 u84 u85 u86 u87 u88 u89 u90 u91 u92 u93 u94 u95 u96 u97 u98 u99 u100 u101 u102 u103 u104 u105 u106 u107 u108 u109 u110 u111 u112 u113 u114 u115 u116 u117 u118 u119 u120 u121 u122 u123 u124 u125 u126 u127 u128 u129 u130 u131 u132 u133 u134 u135 u136 u137 u138 u139 u140 u141 u142 u143 u144 u145 u146 u147 u148 u149 u150 u151 u152 u153 u154 u155 u156 u157 u158 u159 u160 u161 u162 u163 u164 u165 u166 u167 u168 u169 u170 u171 u172 u173 u174 u175 u176 u177 u178 u179 u180 u181 u182 u183 u184 u185 u186 u187 u188 u189 u190 u191 u192 u193 u194 u195 u196 u197 u198 u199 u200 u201 u202 u203 u204 u205 u206 u207 u208 u209 u210 u211 u212 u213 u214 u215 u216 u217 u218 u219 u220 u221 u222 u223 u224 u225 u226 u227 u228 u229 u230 u231 u232 u233 u234 u235 u236 u237 u238 u239 u240 u241 u242 u243 u244 u245 N um Al2 cl2 J K1
        exact hPP.out
      case rest =>
        obtain ⟨E', hE', hp⟩ := hcut
        rename World => w3
        obtain ⟨⟨ul3, um3⟩, hp9⟩ := hp.exs
        simp only at hp9
        clear hp
        have hp := hp9
        clear hp9
        obtain ⟨Af, cf, rfl⟩ := own_ctor (co_f hp)
        obtain ⟨Aw, cw, rfl⟩ := own_ctor (co_u hp)
        generalize hIf : (List.map It.v I).length = nf at *
        generalize hIw : (List.map It.u I).length = nw at *
        have HE1 := Lib.hid hE'
        obtain ⟨⟨c0, c1, c2, c3, c4, c5⟩, hfz⟩ := cells6 (co_blk hp)
        have hf2 := hfz 2
        have hf3 := hfz 3
        have hf4 := hfz 4
        have hf5 := hfz 5
        have HX1 : Hid (Post (StE b ul3 um3 (.slice Af nf cf) (.slice Aw nw cw) E' I) w F ((((w3.setCell ⟨b, 2, none⟩ (.slice Af nf cf)).setCell ⟨b, 3, none⟩ (.slice Aw nw cw)).setCell ⟨b, 4, none⟩ (.slice none 0 0)).setCell ⟨b, 5, none⟩ (.slice none 0 0))) :=
          Lib.hid ((co_set (co_set (co_set (co_set hp 2 (.slice Af nf cf)) 3 (.slice Aw nw cw)) 4 (.slice none 0 0)) 5 (.slice none 0 0)).ent (co_swap.mono (Pc.Ent.refl _)))
        clear hp hE' hIf hIw HP2 HNB HNL hNle hEle hfz
        go_upto_block 10 with fail
        generalize (((w3.setCell ⟨b, 2, none⟩ (.slice Af nf cf)).setCell ⟨b, 3, none⟩ (.slice Aw nw cw)).setCell ⟨b, 4, none⟩ (.slice none 0 0)).setCell ⟨b, 5, none⟩ (.slice none 0 0) = w4 at *
        clear c0 c1 c2 c3 c4 c5 hf2 hf3 hf4 hf5
        go_wp2_with fail
        go_loopw [14] (fun i wr => RelP (StE b ul3 um3 (.slice Af nf cf) (.slice Aw nw cw) E' I) w F E'.length i wr) (fun i _ => E'.length - (intOf i).toNat)
        case atStart => exact ⟨0, by omega, rfl, HX1.out⟩
        case round =>
          obtain ⟨t, ht, rfl, hp⟩ := hrel
          have HP5 := Lib.hid hp
          have hE9 := HE1.out
          obtain ⟨⟨c0, -, -, -, -, -⟩, -⟩ := cells6 (co_blk hp)
          rcases Nat.lt_or_ge t E'.length with hlt | hge
          · obtain ⟨e, he⟩ : ∃ e, E'[t]? = some e := ⟨_, List.getElem?_eq_getElem hlt⟩
            have hrd := stE_en hp (List.mem_of_getElem? he)
            obtain ⟨gl, cl3, e1, d1, hq1⟩ := row_cell (co_l hp) (i := t) (x := e.v) (by rw [enV, List.getElem?_map, he]; rfl)
            rw [enV_len] at e1 hq1
            subst e1
            obtain ⟨ev, en, em⟩ := e
            obtain ⟨Ae, ce, e2, hc1, hc2, -⟩ := hrd
            simp only [markL_len] at e2 hc1 hc2 d1
            subst e2
            have HEE := Lib.hid he
            have hen : en ≤ 9223372036854775807 := by unfold maxLen at hc2; omega
            clear hp he hc1 hc2
            go_wp2_with fail
            go_loopw [15] (fun i wr => RelP (StE b (.slice (some ⟨gl, 0, none⟩) E'.length cl3) um3 (.slice Af nf cf) (.slice Aw nw cw) E' I) w F en i wr) (fun i _ => en - (intOf i).toNat)
            case atStart => exact ⟨0, by omega, rfl, HP5.out⟩
            case round =>
              obtain ⟨j, hj, rfl, hp⟩ := hrel
              have HP6 := Lib.hid hp
              clear c0 d1
              have he := HEE.out
              obtain ⟨⟨c0, c1, -, -, -, -⟩, -⟩ := cells6 (co_blk hp)
              have d1 := row_cell_at (co_l hp) (i := t) (x := .slice Ae en ce) (by rw [enV, List.getElem?_map, he]; rfl)
              rcases Nat.lt_or_ge j en with hlt2 | hge2
              · obtain ⟨gm, cm3, e3, dm, hqm⟩ := row_cell (co_m hp) (i := t) (x := byteV em) (by rw [enM, List.getElem?_map, he]; rfl)
                rw [enM_len] at e3 hqm
                subst e3
                obtain ⟨A9, c9, e9, -, -, hcs⟩ := stE_en hp (List.mem_of_getElem? he)
                have e9 := (Value.slice.inj e9).1
                subst e9
                obtain ⟨ge, oe, rfl, de⟩ := hcs j (byteV em) (by simp [markL, hlt2])
                unfold byteV at dm de
                have HN := Lib.hid (fun n => hp.still ((Mods.refl [] wr).drewN n))
                have DM := Lib.hid dm
                have DE := Lib.hid de
                clear hp he hcs dm de
                go_upto_region 40 with fail
                have dm := DM.out
                have de := DE.out
                go_quiet (fail)
                go_wp2_with fail
                exact ⟨⟨j + 1, by omega, rfl, HN.out _⟩, by simp only [intOf]; omega⟩
              · obtain rfl : j = en := by omega
                clear hp he
                go_wp2_with fail
                exact ⟨⟨t + 1, by omega, rfl, HP6.out⟩, by simp only [intOf]; omega⟩
          · obtain rfl : t = E'.length := by omega
            have hc0 := co_l hp
            rw [enV_len] at hc0
            obtain ⟨Al9, cl9, rfl⟩ := own_ctor hc0
            clear hp hc0
            go_wp2_with fail
            go_ret
            exact ⟨rfl, HP5.out.ent (Pc.Ent.to (p := fun E' => Pc.when (E'.length ≤ E.length + 5 * H.length) (BkA b E' I [])) E' fun w F h => (stE_bk w F h).elim fun F1 h1 => ⟨F1, ⟨HE1.out, h1.1⟩, h1.2⟩)⟩  )
set_option maxRecDepth 100000 in
set_option maxHeartbeats 40000000 in
theorem turn_cc : turn_c.1 := by
  intro w b E H I F hE vm vt vf vw Al cl Ah ch HH Q' u5 u6 w2 u7 u8 u9 u16 u17 u18 u19 u20 u21 u22 u23 u24 u25 u26 u27 u28 u29 u30 u31 u32 u33 u34 u35 u36 u37 u38 u39 u40 u41 u42 u43 u44 u45 u46 u47 u48 u49 u50 u51 u52 u53 u54 u55 u56 u57 u58 u59 u60 u61 u62 u63 u64 u65 u66 u67 u68 u69 u70 u71 u72 u73 u74 u75 u76 u77 u78 u79 u80 u81 u82 u83 u84 u85 u86 u87 u88 u89 u90 u91 u92 u93 u94 u95 u96 u97 u98 u99 u100 u101 u102 u103 u104 u105 u106 u107 u108 u109 u110 u111 u112 u113 u114 u115 u116 u117 u118 u119 u120 u121 u122 u123 u124 u125 u126 u127 u128 u129 u130 u131 u132 u133 u134 u135 u136 u137 u138 u139 u140 u141 u142 u143 u144 u145 u146 u147 u148 u149 u150 u151 u152 u153 u154 u155 u156 u157 u158 u159 u160 u161 u162 u163 u164 u165 u166 u167 u168 u169 u170 u171 u172 u173 u174 u175 u176 u177 u178 u179 u180 u181 u182 u183 u184 u185 u186 u187 u188 u189 u190 u191 u192 u193 u194 u195 u196 u197 u198 u199 u200 u201 u202 u203 u204 u205 u206 u207 u208 u209 u210 u211 u212 u213 u214 u215 u216 u217 u218 u219 u220 u221 u222 u223 u224 u225 u226 u227 u228 u229 u230 u231 u232 u233 u234 u235 u236 u237 u238 u239 u240 u241 u242 u243 u244 u245 N HP2 um Al2 cl2 HNB HNL hNle hEle J K1 hJ hK1
  go_wp2_with fail
  go_loopw [11] (fun i wr => RelD b (.slice Ah H.length ch) vt vf vw E N H I w F i wr) (fun i _ => E.length + N.length - (intOf i).toNat)
  case atStart => exact ⟨0, [], [], by omega, by simp, by simp, by simp, HP2.out⟩
  case round =>
    obtain ⟨t, G, D, ht, rfl, hG, hD, hp⟩ := hrel
    have HP3 := Lib.hid hp
    have HD := Lib.hid hD
    rcases Nat.lt_or_ge t N.length with hlt | hge
    · obtain ⟨e, he⟩ : ∃ e, N[t]? = some e := ⟨_, List.getElem?_eq_getElem hlt⟩
      have hdrop : N.drop t = e :: N.drop (t + 1) := by
        rw [List.drop_eq_getElem_cons hlt]
        congr 1
        have := (List.getElem?_eq_some_iff.1 he).2
        simp [this]
      rw [hdrop] at hp
      obtain ⟨⟨xl, xm⟩, hp⟩ := hp.exs
      have heb : e.n ≤ 100000000 := HNB.out e (List.mem_of_getElem? he)
      have hp4 : Post (StH b (.slice Ah H.length ch) vt vf vw E N (G ++ []) D (N.drop (t + 1)) [e] e.v (e.n + 0) e.m H I xl xm) w F wr := hp.ent (by
        unfold StH
        rw [List.append_nil]
        refine (Pc.Ent.refl _).mono ?_
        exact ((Pc.Ent.refl _).mono ((Pc.Ent.refl _).mono (Pc.Ent.assoc (Pc.row 5 1 e.v e.n (markL e.n e.m)) (News (N.drop (t + 1))) (items I)))).trans ((Pc.Ent.at3 _ _ _ _).trans ((Grp.start e.v e.n e.m).mono (Pc.Ent.refl _))))
      have hev : (enV (E ++ N ++ (G ++ [])))[E.length + t]? = some e.v := by
        simp only [enV, List.map_append]
        rw [List.append_assoc, List.getElem?_append_right (by simp), List.length_map, Nat.add_sub_cancel_left, List.getElem?_append_left (by simpa using hlt), List.getElem?_map, he]
        rfl
      have hem : ∀ Gx, (enM (E ++ N ++ Gx))[E.length + t]? = some (byteV e.m) := by
        intro Gx
        simp only [enM, List.map_append]
        rw [List.append_assoc, List.getElem?_append_right (by simp), List.length_map, Nat.add_sub_cancel_left, List.getElem?_append_left (by simpa using hlt), List.getElem?_map, he]
        rfl
      have hem1 : ∃ z : Int, byteV e.m = .int .u8 z ∧ 0 ≤ z ∧ z < 256 := ⟨(e.m.toNat : Int), rfl, by omega, by have := e.m.toNat_lt; omega⟩
      obtain ⟨⟨c0, -, -, -, -, -⟩, -⟩ := cells6 (co_blk hp4)
      have hl := co_l hp4
      obtain ⟨gl, cl3, e1, d1, hq1⟩ := row_cell hl hev
      rw [enV_len, List.length_append, List.length_append, List.length_append, List.length_nil, Nat.add_zero] at e1 hq1
      subst e1
      have HP4 := Lib.hid hp4
      have HEM := Lib.hid hem
      have HEE := Lib.hid he
      obtain ⟨ev, en, em⟩ := e
      simp only at d1 heb HP4 HEM HEE hem1
      have hgo := (HP4.out.ent ((Pc.Ent.right _ _).trans (Pc.Ent.left _ _))).any
      obtain ⟨F9, hgo⟩ := hgo
      obtain ⟨Ae, ce, rfl⟩ := own_ctor hgo.1
      clear hp hp4 hl hev hem hem1 hgo he hdrop hD HP3
      go_wp2_with fail
      go_loopw [12, 13] (fun g k wr => RelE b (.slice Ah H.length ch) vt vf vw E N G D (N.drop (t + 1)) ⟨.slice Ae (en + 0) ce, en, em⟩ H I w F g k wr) (fun _ k _ => 70 - (intOf k).toNat)
      case atStart => exact ⟨0, [], [⟨.slice Ae (en + 0) ce, en, em⟩], _, _, by omega, rfl, by simp, by simp, HP4.out⟩
      case round =>
        obtain ⟨j, Gx, Es, zl, zm, hj, rfl, hGx, hEs, hp⟩ := hrel
        have HP5 := Lib.hid hp
        have HES := Lib.hid hEs
        have hGx4 : Gx.length ≤ 4 := by
          have := cnt_le j
          omega
        clear c0 d1
        rcases Nat.lt_or_ge j 70 with hlt2 | hge2
        · obtain ⟨F8, hgo⟩ := (hp.ent ((Pc.Ent.right _ _).trans (Pc.Ent.left _ _))).any
          have hg1 := hgo.1
          obtain ⟨Ag, cg, rfl⟩ := own_ctor hg1
          have HG1 := Lib.hid hg1
          obtain ⟨⟨c0, c1, -, -, -, -⟩, hfz⟩ := cells6 (co_blk hp)
          have hm := co_m hp
          obtain ⟨gm, cm3, em1, dm1, hqm⟩ := row_cell hm (HEM.out (G ++ Gx))
          rw [enM_len, List.length_append, List.length_append, List.length_append] at em1 hqm
          subst em1
          unfold byteV at dm1
          obtain ⟨i0, hi0, hz0, hz1, hz2⟩ := info_parts info5
          obtain ⟨i1, hj1, hy0, hy1, hy2⟩ := info_parts info43
          clear hgo hg1 hm hp
          go_wp2_with (at_builtin; go_must (refine wpList_app2 _ rfl _ _ 43 43 rfl 0 5 i0 (.int .u8 0) 1 1 Tryd.underlying43 hi0 hz0 hz1 hz2 rfl _ _ _ rfl (HG1.out.alloc _) _ 1 [.int .u8 (em.toNat : Int)] rfl ?e1 ?e2 ?e3 ?e4 ?_))
          case e1 => exact src_one Tryd.underlying43 _ _ _ rfl
          case e2 => unfold maxLen; omega
          case e3 => omega
          intro g2 w5 hown hat
          have hp6 := co_data HP5.out (Grp.turn (by rw [markL_snoc]; exact hown) (by simpa using hat))
          obtain ⟨Ag2, cg2, rfl⟩ := own_ctor hown
          have HP6 := Lib.hid hp6
          clear c0 c1 dm1 hfz hown hat
          go_upto_region 27 with fail
          obtain ⟨sp, hsp⟩ : ∃ sp : Bool, (sp = false ↔ (j ≠ 0 ∧ j ≠ 3 ∧ j ≠ 15 ∧ j ≠ 69)) := ⟨decide (¬ (j ≠ 0 ∧ j ≠ 3 ∧ j ≠ 15 ∧ j ≠ 69)), by simp⟩
          have HSP := Lib.hid hsp
          clear hsp
          go_cut [159] from 132 to 185 (fun tb w' => tb = .bool sp ∧ w5 = w')
          case first =>
            by_cases hspec : j ≠ 0 ∧ j ≠ 3 ∧ j ≠ 15 ∧ j ≠ 69
            · obtain rfl := HSP.out.2 hspec
              have k0 : ((j : Int) == 0) = false := by rw [beq_eq_false_iff_ne]; omega
              have k3 : ((j : Int) == 3) = false := by rw [beq_eq_false_iff_ne]; omega
              have k15 : ((j : Int) == 15) = false := by rw [beq_eq_false_iff_ne]; omega
              have k69 : ((j : Int) == 69) = false := by rw [beq_eq_false_iff_ne]; omega
              clear hspec hp6 hEs
              go_wp2_with fail
              go_meet
              case rel => exact ⟨rfl, rfl⟩
            · obtain ⟨-, hcase⟩ := cnt_up hspec
              obtain rfl : sp = true := by cases sp; exact absurd (HSP.out.1 rfl) hspec; rfl
              clear hspec hp6 hEs
              rcases hcase with k0 | ⟨k0, k3⟩ | ⟨k0, k3, k15⟩ | ⟨k0, k3, k15, k69⟩
              all_goals
                go_wp2_with fail
                go_meet
                case rel => exact ⟨rfl, rfl⟩
          case rest =>
          obtain ⟨rfl, rfl⟩ := hcut
          by_cases hspec : j ≠ 0 ∧ j ≠ 3 ∧ j ≠ 15 ∧ j ≠ 69
          · obtain rfl := HSP.out.2 hspec
            have HR : Hid (RelE b (.slice Ah H.length ch) vt vf vw E N G D (N.drop (t + 1)) ⟨.slice Ae (en + 0) ce, en, em⟩ H I w F (.slice Ag2 (en + j + 1) cg2) (.int .i64 ((j : Int) + 1)) w5) := Lib.hid ⟨j + 1, Gx, Es, _, _, by omega, rfl, by rw [cnt_step hspec]; exact hGx, hEs, hp6⟩
            clear hp6 hEs hspec
            go_wp2_with fail
            exact ⟨HR.out, by simp only [intOf]; omega⟩
          · obtain rfl : sp = true := by cases sp; exact absurd (HSP.out.1 rfl) hspec; rfl
            obtain ⟨hcn, -⟩ := cnt_up hspec
            have hl6 := co_l hp6
            rw [enV_len, List.length_append, List.length_append, List.length_append] at hl6
            have HL6 := Lib.hid hl6
            obtain ⟨⟨c0, -, -, -, -, -⟩, -⟩ := cells6 (co_blk hp6)
            obtain ⟨Al6, cl6, rfl⟩ := own_ctor hl6
            have hm6 := co_m hp6
            rw [enM_len, List.length_append, List.length_append, List.length_append] at hm6
            have HM6 := Lib.hid hm6
            have hLVl : (enV (E ++ N ++ (G ++ Gx))).length = E.length + N.length + (G.length + Gx.length) := by rw [enV_len, List.length_append, List.length_append, List.length_append]
            have hLMl : (enM (E ++ N ++ (G ++ Gx))).length = E.length + N.length + (G.length + Gx.length) := by rw [enM_len, List.length_append, List.length_append, List.length_append]
            have hmc := HEM.out (G ++ Gx)
            clear hp6 hl6 hm6 hspec
            generalize hLV : enV (E ++ N ++ (G ++ Gx)) = LV at *
            generalize hLM : enM (E ++ N ++ (G ++ Gx)) = LM at *
            have HLV := Lib.hid hLV
            have HLM := Lib.hid hLM
            have HLVL := Lib.hid hLVl
            have HLML := Lib.hid hLMl
            have HMC := Lib.hid hmc
            clear hLV hLM hLVl hLMl hmc
            go_wp2_with (at_builtin; go_must (refine wpList_app _ rfl _ _ 42 42 rfl 0 43 i1 (.slice none 0 0) 1 24 Tryd.underlying42 hj1 hy0 hy1 hy2 rfl _ _ _ rfl (HL6.out.alloc _) _ 1 [.slice Ag2 (en + j + 1) cg2] rfl ?f1 ?f2 ?f3 ?f4 ?_))
            case f1 => exact src_one Tryd.underlying42 _ _ _ rfl
            case f2 => unfold maxLen; omega
            case f3 => omega
            case f4 => exact Nat.zero_le _
            intro zl2 w7 hown hgrow hat
            have hp7 := co_pushl HP6.out (row_turn (by rw [HLVL.out]; exact hown) hgrow (by simpa using hat))
            obtain ⟨Al7, cl7, rfl⟩ := own_ctor hown
            clear c0
            obtain ⟨⟨c0, -, -, -, -, -⟩, hfz7⟩ := cells6 (co_blk hp7)
            have hfz70 := hfz7 0
            have hp8 := co_set hp7 0 (.slice Al7 (E.length + N.length + (G.length + Gx.length) + 1) cl7)
            have HP8 := Lib.hid hp8
            clear hp7 hp8 hfz7 hown hgrow hat
            go_wp2_with fail
            generalize w7.setCell ⟨b, 0, none⟩ (.slice Al7 (E.length + N.length + (G.length + Gx.length) + 1) cl7) = w8 at *
            clear c0 hfz70
            have HP8d := Lib.hid (HP8.out.still ((Mods.refl [] w8).drew))
            obtain ⟨⟨-, c1, -, -, -, -⟩, -⟩ := cells6 (co_blk HP8.out)
            have hm8 := co_m HP8.out
            have hmc := row_cell_at hm8 HMC.out
            unfold byteV at hmc
            rw [HLML.out] at hm8
            have HM8 := Lib.hid (fun o : Obj => ownsRow_mods (w := w8) hm8 ((Mods.refl [] w8).alloc o).drew (by simp))
            have c1a : (w8.alloc (.cells #[.int .u8 (em.toNat : Int)] 5)).cell? ⟨b, 1, none⟩ = some (.slice (some ⟨gm, 0, none⟩) (E.length + N.length + (G.length + Gx.length)) cm3) := by
              rw [((Mods.refl [] w8).alloc _).cell (World.block_lt_of_cell? _ _ c1) (by simp)]
              exact c1
            have s1 : (0 : Int) ≤ (E.length : Int) + (t : Int) := by omega
            have s2 : (E.length : Int) + (t : Int) < (E.length : Int) + (N.length : Int) + ((G.length : Int) + (Gx.length : Int)) := by omega
            have s3 : ((E.length : Int) + (t : Int)).toNat = E.length + t := by omega
            clear hm8
            go_region_law (refine step_app rfl _ _ 43 43 rfl 0 5 i0 (.int .u8 0) 1 1 Tryd.underlying43 hi0 hz0 hz1 hz2 rfl (.slice (some ⟨gm, 0, none⟩) (E.length + N.length + (G.length + Gx.length)) cm3) (E.length + N.length + (G.length + Gx.length)) LM rfl (HM8.out _) (.slice (some ⟨w8.heap.size, 0, none⟩) 1 1) 1 [.int .u8 (em.toNat : Int)] rfl (src_drew Tryd.underlying43 _ _ _ rfl) (by unfold maxLen; omega) (by omega) (Nat.zero_le _) ?_; intro zm2 w9 hown hgrow hat; have hp10 := co_pushm HP8d.out (row_turn (by rw [HLML.out]; exact hown) (grown_drew hgrow) (by simpa using hat)); have HP10 := Lib.hid hp10; obtain ⟨Am9, cm9, rfl⟩ := own_ctor hown; obtain ⟨⟨-, c1', -, -, -, -⟩, hfz'⟩ := cells6 (co_blk hp10); have hfz1 := hfz' 1; clear hown hgrow hat hp10 hfz')
            all_goals
              have hp11 := co_set HP10.out 1 (.slice Am9 (E.length + N.length + (G.length + Gx.length) + 1) cm9)
              have hv := HLV.out
              have hm' := HLM.out
              subst hv
              subst hm'
              have HR := Lib.hid (relE_note (e := ⟨.slice Ae (en + 0) ce, en, em⟩) hlt2 hGx hcn HES.out hp11)
              clear hp11 c1 c1' hmc c1a hfz1 s1 s2 s3

              go_wp2_with fail
              exact ⟨HR.out, by simp only [intOf]; omega⟩
        · obtain rfl : j = 70 := by omega
          have HR := Lib.hid (stG_next hlt HEE.out hG hGx4 HD.out HES.out hp)
          clear hp hEs
          go_wp2_with fail
          exact ⟨HR.out, by simp only [intOf]; omega⟩
    · obtain rfl : t = N.length := by omega
      rw [List.drop_length] at hp
      have HX := Lib.hid (hp.ent (stF_of (fun x hx => HD.out x (by rw [List.take_length]; exact hx))))
      have hGL := hG
      clear hp hD HP3
      go_wp2_with fail
      go_meet
      case rel => exact ⟨E ++ N ++ G, by simp only [List.length_append]; have := HNL.out; omega, HX.out⟩
theorem turn_any {w : World} {b : Nat} {E : List En} {H I : List It} {F : List Nat} (h : (BkA b E H I).A w F) (hE : E.length + 5 * H.length ≤ 100000000) (hH : ∀ x ∈ H, x.bs.length ≤ 100000000) :
    Calls Tryd.prog 26 #[.pointer (some ⟨b, 0, none⟩)] w fun e w' => e = .returned (.bool true) ∧ Post (Pc.ex fun E' => Pc.when (E'.length ≤ E.length + 5 * H.length) (BkA b E' I [])) w F w' :=
  turn_c.2 (Lib.hid turn_cc) _ _ _ _ _ _ h hE hH
end Go.Proofs.YtedddekkbgaolaaDoor
