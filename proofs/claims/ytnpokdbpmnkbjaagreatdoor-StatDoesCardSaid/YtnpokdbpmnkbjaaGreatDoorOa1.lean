/- The Book's own: the growing, list by list (printed by wip/bin/genown.py). -/
import Derived.Test.YtnpokdbpmnkbjaaGreatDoorOz
namespace Go.Proofs.YtnpokdbpmnkbjaaGreatDoor
open Go Go.RowKit Me

section
variable {b n : Nat} {e : TypeId} {rv ru it Z p5 p6 : Pc} {vb vc vs vt v0 : Value} {xb xc : List Value} {w0 w : World} {F : List Nat}
/-- The Book's cells and the row whose place is written: with the grown list at the front. -/
theorem own_cb (h : Post (rv.star (ru.star (it.star ((BkC b vb vc vs vt).star ((Pc.row e 1 v0 n xb).star (p6.star Z)))))) w0 F w) : w.heap[b]? = some (.cells #[vb, vc, vs, vt] 28 (0, 0)) ∧ w.ownsRow 0 e 1 v0 n xb :=
  ⟨h.blkOf ((Pc.Ent.right _ _).trans ((Pc.Ent.right _ _).trans ((Pc.Ent.right _ _).trans (Pc.Ent.left _ _)))),
   h.rowAt ((Pc.Ent.right _ _).trans ((Pc.Ent.right _ _).trans ((Pc.Ent.right _ _).trans ((Pc.Ent.right _ _).trans (Pc.Ent.left _ _)))))⟩
theorem own_cc5 (h : Post (rv.star (ru.star (it.star ((BkC b vb vc vs vt).star (p5.star ((Pc.row e 1 v0 n xb).star Z)))))) w0 F w) : w.heap[b]? = some (.cells #[vb, vc, vs, vt] 28 (0, 0)) ∧ w.ownsRow 0 e 1 v0 n xb :=
  ⟨h.blkOf ((Pc.Ent.right _ _).trans ((Pc.Ent.right _ _).trans ((Pc.Ent.right _ _).trans (Pc.Ent.left _ _)))),
   h.rowAt ((Pc.Ent.right _ _).trans ((Pc.Ent.right _ _).trans ((Pc.Ent.right _ _).trans ((Pc.Ent.right _ _).trans ((Pc.Ent.right _ _).trans (Pc.Ent.left _ _))))))⟩
/-- The grown list is written into the Book's row. -/
theorem own_sb {g c k : Nat} {x : Value} {C : Pc} (h : Post (rv.star (ru.star (it.star (C.star ((Pc.row e 1 (.slice (some ⟨g, 0, none⟩) n c) n xb).star (p6.star Z)))))) w0 F w) :
    Post (rv.star (ru.star (it.star (C.star ((Pc.row e 1 (.slice (some ⟨g, 0, none⟩) n c) n (xb.set k x)).star (p6.star Z)))))) w0 F (w.setCell ⟨g, k, none⟩ x) :=
  ((h.ent (Pc.perm [rv, ru, it, C, _, p6, Z] [4, 0, 1, 2, 3, 5, 6] (n := 7) (by decide))).step (row_set1 (i := k) x)).ent (Pc.perm [_, rv, ru, it, C, p6, Z] [1, 2, 3, 4, 0, 5, 6] (n := 7) (by decide))
theorem own_sc {g c k : Nat} {x : Value} {C : Pc} (h : Post (rv.star (ru.star (it.star (C.star (p5.star ((Pc.row e 1 (.slice (some ⟨g, 0, none⟩) n c) n xb).star Z)))))) w0 F w) :
    Post (rv.star (ru.star (it.star (C.star (p5.star ((Pc.row e 1 (.slice (some ⟨g, 0, none⟩) n c) n (xb.set k x)).star Z)))))) w0 F (w.setCell ⟨g, k, none⟩ x) :=
  ((h.ent (Pc.perm [rv, ru, it, C, p5, _, Z] [5, 0, 1, 2, 3, 4, 6] (n := 7) (by decide))).step (row_set1 (i := k) x)).ent (Pc.perm [_, rv, ru, it, C, p5, Z] [1, 2, 3, 4, 5, 0, 6] (n := 7) (by decide))
theorem row_bsnoc {v : Value} {l : List UInt8} {y : UInt8} {r : Pc} (h : Post ((Pc.row 5 1 v (l.length + 1) (l.map byteV ++ [.int .u8 (y.toNat : Int)])).star r) w0 F w) : Post ((rowOf v (l ++ [y])).star r) w0 F w := by
  unfold rowOf
  rw [List.length_append, List.map_append]
  exact h
theorem row_ssnoc {v : Value} {l : List StatP} {y : StatP} {r : Pc} (h : Post ((Pc.row 35 13 v (l.length + 1) (flatT l ++ (statV y).toList)).star r) w0 F w) : Post ((rowS v (l ++ [y])).star r) w0 F w := by
  unfold rowS
  rw [List.length_append, flatT_append]
  simpa [flatT] using h
end
theorem src_drewS (w : World) (s : StatP) : Src Tryz.prog 13 38 (.slice (some ⟨w.heap.size, 0, none⟩) 1 1) 1 (statV s).toList ((w.alloc (.cells (statV s) 35)).drew) :=
  Src.ofSlice _ Tryz.underlying38 _ _ _ _ rfl (cells_new w (statV s).toList 35) (statV_one s)
set_option maxRecDepth 100000 in
set_option maxHeartbeats 40000000 in
theorem own_c1 : own_cc.P1 := by
  intro w0 F b R Ab cb Ac cc As cs At ct N hil M hjl u4 u5 u6 u7 u15 u16 u17 u18 u19 u20 u21 u22 u23 u24 u25 u26 u27 u28 u29 u30 u31 u32 u33 u34 u35 u36 u37 u38 u39 u40 u41 u42 u43 u44 u45 u46 u47 u48 u49 u50 u51 u52 u53 u54 u55 u56 u57 u58 u59 u60 u61 u62 u63 u64 u65 u66 u67 u68 u69 u70 u71 u72 u73 u74 u75 u76 u77 u78 u79 u80 u81 u82 u83 u84 u85 u86 u87 u88 u89 u90 u91 u92 u93 u94 u95 u96 u97 u98 u99 u100 u101 u102 u103 u104 u105 u106 u107 u108 u109 u110 u215 u216 wr u9 u10 u111 u112 u113 u114 u115 u116 u117 u118 u119 u120 u121 u122 u123 u124 u125 u126 u127 u128 u129 u130 u131 u132 u133 u134 u135 u136 u137 u138 u139 u140 u141 u142 u143 u144 u145 u146 u147 u148 u149 u150 u151 u152 u153 u154 u155 u156 u157 u158 u159 u160 u161 u162 u163 u164 u165 u166 u167 u168 u169 u170 u171 u172 u173 u174 u175 u176 u177 u178 u179 u180 u181 u182 u183 u184 u185 u186 u187 u188 u189 u190 u191 u192 u193 u194 u195 u196 u197 u198 u199 u200 u201 u202 u203 u204 u205 u206 u207 u208 u209 u210 u211 u212 u213 u214 t I J ht hlt HI HJ HP J3 K3 hJ3 hK3
  go_wp2_with fail
  go_loopw [9] (fun i wr => RelC1 b (.slice Ab N cb) (.slice Ac N cc) (.slice As M cs) (.slice At M ct) J R w0 F N (1010000000 + t) i wr) (fun i _ => N - (intOf i).toNat)
  case atStart => exact ⟨0, I, by omega, rfl, IOk2.start HI.out, HP.out⟩
  case round =>
    clear HI HP I
    obtain ⟨k, I, hk, rfl, hi, hp⟩ := hrel
    have HI := Lib.hid hi
    obtain ⟨hb, h1, h2, -, -⟩ := ow_cells hp
    obtain ⟨c0, -, -, -, f0, -, -, -⟩ := bcell4 hb
    rcases Nat.lt_or_ge k N with hlt3 | hge3
    · obtain ⟨y, hy⟩ : ∃ x, I[k]? = some x := ⟨_, List.getElem?_eq_getElem (by rw [hi.len]; exact hlt3)⟩
      have hq := hp.ent (ow_openB hy)
      rw [hi.len] at hq h1
      obtain ⟨-, -, -, r1, r2⟩ := owB_cells hq
      obtain ⟨g1, q1, e1, d1, f1⟩ := row_cell h1 (i := k) (x := y.v) (by rw [List.getElem?_map, hy]; rfl)
      injection e1 with e1 _ e1c
      subst e1
      subst e1c
      have hyb := hi.bs k y hy
      rw [if_neg (by omega)] at hyb
      have HY := Lib.hid hy
      have HQ := Lib.hid hq
      have HQd := Lib.hid (hq.still ((Mods.refl [] wr).drew))
      obtain ⟨yv, yu, ybs⟩ := y
      simp only at r1 r2 d1 HQ HQd hyb
      obtain ⟨Av, cv, rfl⟩ := own_ctor r1
      have hM : (7 * (k : Int) + (t : Int)) % 256 = ((UInt8.ofNat (7 * k + t)).toNat : Int) := by rw [UInt8.toNat_ofNat']; omega
      generalize UInt8.ofNat (7 * k + t) = Y at *
      have HM := Lib.hid hM
      have HL := Lib.hid (fun o : Obj => ownsRow_mods (w := wr) r1 ((Mods.refl [] wr).alloc o).drew (by simp))
      obtain ⟨i0, hi0, hz0, hz1, hz2⟩ := info_parts info5
      clear hp hb h1 h2 hy hi hq r1 r2 hM HQ
      go_upto_block 11 with fail
      go_cut [163] from 124 to 163 (fun _ w' => ∃ I', IOk2 N (1010000000 + t) (k + 1) I' ∧ Post (Ow b (.slice (some ⟨g1, 0, none⟩) N cb) (.slice Ac N cc) (.slice As M cs) (.slice At M ct) I' J R) w0 F w')
      case first =>
        go_upto_region 26 with fail
        go_cut [142] from 124 to 143 (fun _ w' => ∃ v', Post (OwB b (.slice (some ⟨g1, 0, none⟩) N cb) (.slice Ac N cc) (.slice As M cs) (.slice At M ct) v' yu (ybs ++ [Y]) ybs (items (I.eraseIdx k)) ((I.map It.v).set k v') (I.map It.u) N ((RsJ (.slice As M cs) (.slice At M ct) J).star R)) w0 F w')
        case first =>
          have c0w : wr.cell? ⟨b, 0, none⟩ = some (.slice (some ⟨g1, 0, none⟩) N cb) := c0
          have c0a : (wr.alloc (.cells #[.int .u8 (Y.toNat : Int)] 5)).cell? ⟨b, 0, none⟩ = some (.slice (some ⟨g1, 0, none⟩) N cb) := by
            rw [((Mods.refl [] wr).alloc _).cell (World.block_lt_of_cell? _ _ c0w) (by simp)]
            exact c0w
          have d1w := d1
          have d1a : (wr.alloc (.cells #[.int .u8 (Y.toNat : Int)] 5)).cell? ⟨g1, k, none⟩ = some (.slice Av ybs.length cv) := by
            rw [((Mods.refl [] wr).alloc _).cell (World.block_lt_of_cell? _ _ d1w) (by simp)]
            exact d1w
          have s1 : IntKind.i64.wrap (7 * (k : Int)) = 7 * (k : Int) := IntWalk.i64_in _ (by omega)
          have s2 : IntKind.i64.wrap (7 * (k : Int) + (t : Int)) = 7 * (k : Int) + (t : Int) := IntWalk.i64_in _ (by omega)
          have s3 : IntKind.u8.wrap (7 * (k : Int) + (t : Int)) = (Y.toNat : Int) := by rw [IntKind.wrap_u8]; exact HM.out
          clear c0w d1w
          go_region_law (refine step_app rfl _ _ 37 37 rfl 0 5 i0 (.int .u8 0) 1 1 Tryz.underlying37 hi0 hz0 hz1 hz2 rfl (.slice Av ybs.length cv) ybs.length (ybs.map byteV) rfl (HL.out _) (.slice (some ⟨wr.heap.size, 0, none⟩) 1 1) 1 [.int .u8 (Y.toNat : Int)] rfl (src_drew Tryz.underlying37 _ _ _ rfl) (by unfold maxLen; omega) (by omega) (Nat.zero_le _) ?_; intro v2 w4 hown hgrow hat; have hp5 := HQd.out.step (row_turn hown (grown_drew hgrow) (by simpa using hat)); have HP5 := Lib.hid hp5; obtain ⟨A2, c2, rfl⟩ := own_ctor hown; obtain ⟨hb5, hr5⟩ := own_cb hp5; obtain ⟨c0', -, -, -, -, -, -, -⟩ := bcell4 hb5; obtain ⟨⟨x5, d1'⟩, f1'⟩ := row_cell5 hr5 hlt3; clear hown hgrow hat hp5 hb5 hr5)
          all_goals
            have hp7 := row_bsnoc (own_sb (k := k) (x := .slice A2 (ybs.length + 1) c2) HP5.out)
            first
              | (go_meet; case rel => exact ⟨_, hp7⟩)
              | (go_wp2_with fail; go_meet; case rel => exact ⟨_, hp7⟩)
        case rest =>
          obtain ⟨v', hp⟩ := hcut
          clear c0 f0 d1 f1 HL HQd
          rename World => w7
          obtain ⟨hb, h1, h2, r1, r2⟩ := owB_cells hp
          obtain ⟨-, c1, -, -, -, f0, -, -⟩ := bcell4 hb
          obtain ⟨g2, q2, e2, d1, f1⟩ := row_cell h2 (i := k) (x := yu) (by rw [List.getElem?_map, HY.out]; rfl)
          injection e2 with e2 _ e2c
          subst e2
          subst e2c
          obtain ⟨Au, cu, rfl⟩ := own_ctor r2
          have HQd := Lib.hid ((hp.ent (Pc.Ent.swap _ _ _)).still ((Mods.refl [] w7).drew))
          have HL := Lib.hid (fun o : Obj => ownsRow_mods (w := w7) r2 ((Mods.refl [] w7).alloc o).drew (by simp))
          clear hp hb h1 h2 r1 r2
          go_upto_region 27 with fail
          have c0w : w7.cell? ⟨b, 1, none⟩ = some (.slice (some ⟨g2, 0, none⟩) N cc) := c1
          have c0a : (w7.alloc (.cells #[.int .u8 (Y.toNat : Int)] 5)).cell? ⟨b, 1, none⟩ = some (.slice (some ⟨g2, 0, none⟩) N cc) := by
            rw [((Mods.refl [] w7).alloc _).cell (World.block_lt_of_cell? _ _ c0w) (by simp)]
            exact c0w
          have d1w := d1
          have d1a : (w7.alloc (.cells #[.int .u8 (Y.toNat : Int)] 5)).cell? ⟨g2, k, none⟩ = some (.slice Au ybs.length cu) := by
            rw [((Mods.refl [] w7).alloc _).cell (World.block_lt_of_cell? _ _ d1w) (by simp)]
            exact d1w
          have s1 : IntKind.i64.wrap (7 * (k : Int)) = 7 * (k : Int) := IntWalk.i64_in _ (by omega)
          have s2 : IntKind.i64.wrap (7 * (k : Int) + (t : Int)) = 7 * (k : Int) + (t : Int) := IntWalk.i64_in _ (by omega)
          have s3 : IntKind.u8.wrap (7 * (k : Int) + (t : Int)) = (Y.toNat : Int) := by rw [IntKind.wrap_u8]; exact HM.out
          clear c0w d1w
          go_region_law (refine step_app rfl _ _ 37 37 rfl 0 5 i0 (.int .u8 0) 1 1 Tryz.underlying37 hi0 hz0 hz1 hz2 rfl (.slice Au ybs.length cu) ybs.length (ybs.map byteV) rfl (HL.out _) (.slice (some ⟨w7.heap.size, 0, none⟩) 1 1) 1 [.int .u8 (Y.toNat : Int)] rfl (src_drew Tryz.underlying37 _ _ _ rfl) (by unfold maxLen; omega) (by omega) (Nat.zero_le _) ?_; intro v2 w4 hown hgrow hat; have hp5 := HQd.out.step (row_turn hown (grown_drew hgrow) (by simpa using hat)); have HP5 := Lib.hid hp5; obtain ⟨A2, c2, rfl⟩ := own_ctor hown; obtain ⟨hb5, hr5⟩ := own_cc5 hp5; obtain ⟨-, c0', -, -, -, -, -, -⟩ := bcell4 hb5; obtain ⟨⟨x5, d1'⟩, f1'⟩ := row_cell5 hr5 hlt3; clear hown hgrow hat hp5 hb5 hr5)
          all_goals
            have hp7 := (row_bsnoc (own_sc (k := k) (x := .slice A2 (ybs.length + 1) c2) HP5.out)).ent (Pc.Ent.swap _ _ _)
            have HR : Hid (∃ I', IOk2 N (1010000000 + t) (k + 1) I' ∧ Post (Ow b (.slice (some ⟨g1, 0, none⟩) N cb) (.slice (some ⟨g2, 0, none⟩) N cc) (.slice As M cs) (.slice At M ct) I' J R) w0 F _) := Lib.hid ⟨I.set k ⟨v', .slice A2 (ybs.length + 1) c2, ybs ++ [Y]⟩, HI.out.set (by rw [List.length_append]; exact Nat.add_le_add_right hyb 1), hp7.ent (by
              have h := ow_shutB (b := b) (vb := .slice (some ⟨g1, 0, none⟩) N cb) (vc := .slice (some ⟨g2, 0, none⟩) N cc) (vs := .slice As M cs) (vt := .slice At M ct) (J := J) (R := R) (x := ⟨v', .slice A2 (ybs.length + 1) c2, ybs ++ [Y]⟩) (I := I) (i := k) (by rw [HI.out.len]; exact hlt3)
              rw [HI.out.len] at h
              exact h)⟩
            clear hp7
            first
              | (go_meet; case rel => exact HR.out)
              | (go_wp2_with fail; go_meet; case rel => exact HR.out)
      case rest =>
        clear c0 f0 d1 f1 HL HQd
        obtain ⟨I', hi, hp⟩ := hcut
        have HR : Hid (RelC1 b (.slice (some ⟨g1, 0, none⟩) N cb) (.slice Ac N cc) (.slice As M cs) (.slice At M ct) J R w0 F N (1010000000 + t) (.int .i64 ((k : Int) + 1)) wc) := Lib.hid ⟨k + 1, I', by omega, rfl, hi, hp⟩
        clear hi hp
        go_wp2_with fail
        exact ⟨HR.out, by simp only [intOf]; omega⟩
    · obtain rfl : k = N := by omega
      have HR : Hid (∃ I, IOk k (1010000000 + (t + 1)) I ∧ Post (Ow b (.slice Ab k cb) (.slice Ac k cc) (.slice As M cs) (.slice At M ct) I J R) w0 F wr) := Lib.hid ⟨I, hi.done, hp⟩
      clear hp hb h1 h2 hi
      go_wp2_with fail
      go_meet
      case rel => exact HR.out
set_option maxRecDepth 100000 in
set_option maxHeartbeats 40000000 in
theorem own_c2 : own_cc.P2 := by
  intro w0 F b R Ab cb Ac cc As cs At ct N hil M hjl u4 u5 u6 u7 u15 u16 u17 u18 u19 u20 u21 u22 u23 u24 u25 u26 u27 u28 u29 u30 u31 u32 u33 u34 u35 u36 u37 u38 u39 u40 u41 u42 u43 u44 u45 u46 u47 u48 u49 u50 u51 u52 u53 u54 u55 u56 u57 u58 u59 u60 u61 u62 u63 u64 u65 u66 u67 u68 u69 u70 u71 u72 u73 u74 u75 u76 u77 u78 u79 u80 u81 u82 u83 u84 u85 u86 u87 u88 u89 u90 u91 u92 u93 u94 u95 u96 u97 u98 u99 u100 u101 u102 u103 u104 u105 u106 u107 u108 u109 u110 u215 u216 u10 u111 u112 u113 u114 u164 u165 u166 u167 u168 u169 u170 u171 u172 u173 u174 u175 u176 u177 u178 u179 u180 u181 u182 u183 u184 u185 u186 u187 u188 u189 u190 u191 u192 u193 u194 u195 u196 u197 u198 u199 u200 u201 u202 u203 u204 u205 u206 u207 u208 u209 u210 u211 u212 u213 u214 t J ht hlt HJ J1 K2 hJ1 hK2 w5 u9 u115 u116 u117 u118 u119 u120 u121 u122 u123 u124 u125 u126 u127 u128 u129 u130 u131 u132 u133 u134 u135 u136 u137 u138 u139 u140 u141 u142 u143 u144 u145 u146 u147 u148 u149 u150 u151 u152 u153 u154 u155 u156 u157 u158 u159 u160 u161 u162 u163 I HI HP
  go_wp2_with fail
  go_loopw [10] (fun i wr => RelC2 b (.slice Ab N cb) (.slice Ac N cc) (.slice As M cs) (.slice At M ct) I R w0 F M (1010000000 + t) i wr) (fun i _ => M - (intOf i).toNat)
  case atStart => exact ⟨0, J, by omega, rfl, JOk2.start HJ.out, HP.out⟩
  case round =>
    clear HJ HP J
    obtain ⟨k, J, hk, rfl, hj, hp⟩ := hrel
    have HJ := Lib.hid hj
    obtain ⟨hb, -, -, h1, h2⟩ := ow_cells hp
    obtain ⟨-, -, c2, -, -, -, f0, -⟩ := bcell4 hb
    rcases Nat.lt_or_ge k M with hlt3 | hge3
    · obtain ⟨y, hy⟩ : ∃ x, J[k]? = some x := ⟨_, List.getElem?_eq_getElem (by rw [hj.len]; exact hlt3)⟩
      have hq := hp.ent (ow_openS hy)
      rw [hj.len] at hq h1
      obtain ⟨-, -, -, r1, r2⟩ := owS_cells hq
      obtain ⟨g1, q1, e1, d1, f1⟩ := row_cell h1 (i := k) (x := y.v) (by rw [List.getElem?_map, hy]; rfl)
      injection e1 with e1 _ e1c
      subst e1
      subst e1c
      have hyb := hj.bs k y hy
      rw [if_neg (by omega)] at hyb
      have HY := Lib.hid hy
      have HQd := Lib.hid (hq.still ((Mods.refl [] wr).drew))
      obtain ⟨yv, yu, yl⟩ := y
      simp only at r1 r2 d1 HQd hyb
      obtain ⟨Av, cv, rfl⟩ := own_ctor r1
      have HL := Lib.hid (fun o : Obj => ownsRow_mods (w := wr) r1 ((Mods.refl [] wr).alloc o).drew (by simp))
      obtain ⟨i0, hi0, hz0, hz1, hz2⟩ := info_parts info90'
      clear hp hb h1 h2 hy hj hq r1 r2
      go_upto_block 13 with fail
      go_cut [214] from 173 to 214 (fun _ w' => ∃ J', JOk2 M (1010000000 + t) (k + 1) J' ∧ Post (Ow b (.slice Ab N cb) (.slice Ac N cc) (.slice (some ⟨g1, 0, none⟩) M cs) (.slice At M ct) I J' R) w0 F w')
      case first =>
        go_upto_region 31 with fail
        go_cut [192] from 173 to 193 (fun _ w' => ∃ v', Post (OwS b (.slice Ab N cb) (.slice Ac N cc) (.slice (some ⟨g1, 0, none⟩) M cs) (.slice At M ct) v' yu (yl ++ [statE k 0 (t + 1)]) yl (itemsS (J.eraseIdx k)) ((J.map Is.v).set k v') (J.map Is.u) M ((RbI (.slice Ab N cb) (.slice Ac N cc) I).star R)) w0 F w')
        case first =>
          have c0w : wr.cell? ⟨b, 2, none⟩ = some (.slice (some ⟨g1, 0, none⟩) M cs) := c2
          have c0a : (wr.alloc (.cells (statV (statE k 0 (t + 1))) 35)).cell? ⟨b, 2, none⟩ = some (.slice (some ⟨g1, 0, none⟩) M cs) := by
            rw [((Mods.refl [] wr).alloc _).cell (World.block_lt_of_cell? _ _ c0w) (by simp)]
            exact c0w
          have d1w := d1
          have d1a : (wr.alloc (.cells (statV (statE k 0 (t + 1))) 35)).cell? ⟨g1, k, none⟩ = some (.slice Av yl.length cv) := by
            rw [((Mods.refl [] wr).alloc _).cell (World.block_lt_of_cell? _ _ d1w) (by simp)]
            exact d1w
          have s1 : IntKind.i64.wrap ((t : Int) + 1) = (t : Int) + 1 := IntWalk.i64_in _ (by omega)
          have s2 : IntKind.u32.wrap ((t : Int) + 1) = (t : Int) + 1 := by rw [IntKind.wrap_u32]; omega
          have s3 : IntKind.u32.wrap (k : Int) = (k : Int) := by rw [IntKind.wrap_u32]; omega
          simp only [statV, statE, StatP.zero, QidP.zero, Int.natCast_add, Int.natCast_zero, Int.natCast_one] at c0a d1a
          clear c0w d1w
          go_region_law (refine step_app rfl _ _ 38 38 rfl 0 35 i0 (.agg zeroV) 13 112 Tryz.underlying38 hi0 hz0 hz1 hz2 rfl (.slice Av yl.length cv) yl.length (flatT yl) rfl (HL.out _) (.slice (some ⟨wr.heap.size, 0, none⟩) 1 1) 1 (statV (statE k 0 (t + 1))).toList rfl (src_drewS _ _) (by unfold maxLen; omega) (by omega) (Nat.zero_le _) ?_; intro v2 w4 hown hgrow hat; have hp5 := HQd.out.step (row_turn hown (grown_drew hgrow) (by simpa using hat)); have HP5 := Lib.hid hp5; obtain ⟨A2, c2, rfl⟩ := own_ctor hown; obtain ⟨hb5, hr5⟩ := own_cb hp5; obtain ⟨-, -, c0', -, -, -, -, -⟩ := bcell4 hb5; obtain ⟨⟨x5, d1'⟩, f1'⟩ := row_cell5 hr5 hlt3; clear hown hgrow hat hp5 hb5 hr5)
          all_goals
            have hp7 := row_ssnoc (own_sb (k := k) (x := .slice A2 (yl.length + 1) c2) HP5.out)
            first
              | (go_meet; case rel => exact ⟨_, hp7⟩)
              | (go_wp2_with fail; go_meet; case rel => exact ⟨_, hp7⟩)
        case rest =>
          obtain ⟨v', hp⟩ := hcut
          clear c2 f0 d1 f1 HL HQd
          rename World => w7
          obtain ⟨hb, h1, h2, r1, r2⟩ := owS_cells hp
          obtain ⟨-, -, -, c3, -, -, -, f0⟩ := bcell4 hb
          obtain ⟨g2, q2, e2, d1, f1⟩ := row_cell h2 (i := k) (x := yu) (by rw [List.getElem?_map, HY.out]; rfl)
          injection e2 with e2 _ e2c
          subst e2
          subst e2c
          obtain ⟨Au, cu, rfl⟩ := own_ctor r2
          have HQd := Lib.hid ((hp.ent (Pc.Ent.swap _ _ _)).still ((Mods.refl [] w7).drew))
          have HL := Lib.hid (fun o : Obj => ownsRow_mods (w := w7) r2 ((Mods.refl [] w7).alloc o).drew (by simp))
          clear hp hb h1 h2 r1 r2
          go_upto_region 32 with fail
          have c0w : w7.cell? ⟨b, 3, none⟩ = some (.slice (some ⟨g2, 0, none⟩) M ct) := c3
          have c0a : (w7.alloc (.cells (statV (statE k 0 (t + 1))) 35)).cell? ⟨b, 3, none⟩ = some (.slice (some ⟨g2, 0, none⟩) M ct) := by
            rw [((Mods.refl [] w7).alloc _).cell (World.block_lt_of_cell? _ _ c0w) (by simp)]
            exact c0w
          have d1w := d1
          have d1a : (w7.alloc (.cells (statV (statE k 0 (t + 1))) 35)).cell? ⟨g2, k, none⟩ = some (.slice Au yl.length cu) := by
            rw [((Mods.refl [] w7).alloc _).cell (World.block_lt_of_cell? _ _ d1w) (by simp)]
            exact d1w
          have s1 : IntKind.i64.wrap ((t : Int) + 1) = (t : Int) + 1 := IntWalk.i64_in _ (by omega)
          have s2 : IntKind.u32.wrap ((t : Int) + 1) = (t : Int) + 1 := by rw [IntKind.wrap_u32]; omega
          have s3 : IntKind.u32.wrap (k : Int) = (k : Int) := by rw [IntKind.wrap_u32]; omega
          simp only [statV, statE, StatP.zero, QidP.zero, Int.natCast_add, Int.natCast_zero, Int.natCast_one] at c0a d1a
          clear c0w d1w
          go_region_law (refine step_app rfl _ _ 38 38 rfl 0 35 i0 (.agg zeroV) 13 112 Tryz.underlying38 hi0 hz0 hz1 hz2 rfl (.slice Au yl.length cu) yl.length (flatT yl) rfl (HL.out _) (.slice (some ⟨w7.heap.size, 0, none⟩) 1 1) 1 (statV (statE k 0 (t + 1))).toList rfl (src_drewS _ _) (by unfold maxLen; omega) (by omega) (Nat.zero_le _) ?_; intro v2 w4 hown hgrow hat; have hp5 := HQd.out.step (row_turn hown (grown_drew hgrow) (by simpa using hat)); have HP5 := Lib.hid hp5; obtain ⟨A2, c2, rfl⟩ := own_ctor hown; obtain ⟨hb5, hr5⟩ := own_cc5 hp5; obtain ⟨-, -, -, c0', -, -, -, -⟩ := bcell4 hb5; obtain ⟨⟨x5, d1'⟩, f1'⟩ := row_cell5 hr5 hlt3; clear hown hgrow hat hp5 hb5 hr5)
          all_goals
            have hp7 := (row_ssnoc (own_sc (k := k) (x := .slice A2 (yl.length + 1) c2) HP5.out)).ent (Pc.Ent.swap _ _ _)
            have HR : Hid (∃ J', JOk2 M (1010000000 + t) (k + 1) J' ∧ Post (Ow b (.slice Ab N cb) (.slice Ac N cc) (.slice (some ⟨g1, 0, none⟩) M cs) (.slice (some ⟨g2, 0, none⟩) M ct) I J' R) w0 F _) := Lib.hid ⟨J.set k ⟨v', .slice A2 (yl.length + 1) c2, yl ++ [statE k 0 (t + 1)]⟩, HJ.out.set (by rw [List.length_append]; exact Nat.add_le_add_right hyb 1), hp7.ent (by
              have h := ow_shutS (b := b) (vb := .slice Ab N cb) (vc := .slice Ac N cc) (vs := .slice (some ⟨g1, 0, none⟩) M cs) (vt := .slice (some ⟨g2, 0, none⟩) M ct) (I := I) (R := R) (x := ⟨v', .slice A2 (yl.length + 1) c2, yl ++ [statE k 0 (t + 1)]⟩) (J := J) (i := k) (by rw [HJ.out.len]; exact hlt3)
              rw [HJ.out.len] at h
              exact h)⟩
            clear hp7
            first
              | (go_meet; case rel => exact HR.out)
              | (go_wp2_with fail; go_meet; case rel => exact HR.out)
      case rest =>
        clear c2 f0 d1 f1 HL HQd
        obtain ⟨J', hj, hp⟩ := hcut
        have HR : Hid (RelC2 b (.slice Ab N cb) (.slice Ac N cc) (.slice (some ⟨g1, 0, none⟩) M cs) (.slice At M ct) I R w0 F M (1010000000 + t) (.int .i64 ((k : Int) + 1)) wc) := Lib.hid ⟨k + 1, J', by omega, rfl, hj, hp⟩
        clear hj hp
        go_wp2_with fail
        exact ⟨HR.out, by simp only [intOf]; omega⟩
    · obtain rfl : k = M := by omega
      have HR : Hid (∃ I J, IOk N (1010000000 + (t + 1)) I ∧ JOk k (1010000000 + (t + 1)) J ∧ Post (Ow b (.slice Ab N cb) (.slice Ac N cc) (.slice As k cs) (.slice At k ct) I J R) w0 F wr) := Lib.hid ⟨I, J, HI.out, hj.done, hp⟩
      clear hp hb h1 h2 hj
      go_wp2_with fail
      go_meet
      case rel => exact HR.out
theorem own_any {w0 w : World} {F : List Nat} {b : Nat} {vb vc vs vt : Value} {I : List It} {J : List Is} {R : Pc} (h : Post (Ow b vb vc vs vt I J R) w0 F w) (hok : OwOk I J 1010000000) :
    Calls Tryz.prog 6 #[.pointer (some ⟨b, 0, none⟩)] w (OwnPost b vb vc vs vt I.length J.length R w0 F) :=
  own_c.2 (Lib.hid (own_cc.h (Lib.hid own_c1) (Lib.hid own_c2))) _ _ _ _ _ _ _ _ _ _ _ h hok
end Go.Proofs.YtnpokdbpmnkbjaaGreatDoor
