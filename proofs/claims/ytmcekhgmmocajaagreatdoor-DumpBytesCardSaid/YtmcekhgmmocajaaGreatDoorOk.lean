/- The Book's own: bytes grow. -/
import Derived.Test.YtmcekhgmmocajaaGreatDoorO7
import Derived.Deep.RegionLaw
namespace Go.Proofs.YtmcekhgmmocajaaGreatDoor
open Go Go.RowKit Me

def RelU (C Z : Pc) (vb vc : Value) (w0 : World) (F : List Nat) (N B : Nat) (ix : Value) (wr : World) : Prop :=
  ∃ (k : Nat) (I : List It), k ≤ N ∧ ix = .int .i64 (k : Int) ∧ IOk2 N B k I ∧ Post (C.star ((RbI vb vc I).star Z)) w0 F wr
section
variable {b n : Nat} {e : TypeId} {rv ru it Z p5 p6 : Pc} {vb vc ve vd v0 : Value} {xb xc : List Value} {w0 w : World} {F : List Nat}
theorem own_cb (h : Post (rv.star (ru.star (it.star ((BkC b vb vc ve vd).star ((Pc.row e 1 v0 n xb).star (p6.star Z)))))) w0 F w) : w.heap[b]? = some (.cells #[vb, vc, ve, vd] 41 (0, 0)) ∧ w.ownsRow 0 e 1 v0 n xb :=
  ⟨h.blkOf ((Pc.Ent.right _ _).trans ((Pc.Ent.right _ _).trans ((Pc.Ent.right _ _).trans (Pc.Ent.left _ _)))),
   h.rowAt ((Pc.Ent.right _ _).trans ((Pc.Ent.right _ _).trans ((Pc.Ent.right _ _).trans ((Pc.Ent.right _ _).trans (Pc.Ent.left _ _)))))⟩
theorem own_cc5 (h : Post (rv.star (ru.star (it.star ((BkC b vb vc ve vd).star (p5.star ((Pc.row e 1 v0 n xb).star Z)))))) w0 F w) : w.heap[b]? = some (.cells #[vb, vc, ve, vd] 41 (0, 0)) ∧ w.ownsRow 0 e 1 v0 n xb :=
  ⟨h.blkOf ((Pc.Ent.right _ _).trans ((Pc.Ent.right _ _).trans ((Pc.Ent.right _ _).trans (Pc.Ent.left _ _)))),
   h.rowAt ((Pc.Ent.right _ _).trans ((Pc.Ent.right _ _).trans ((Pc.Ent.right _ _).trans ((Pc.Ent.right _ _).trans ((Pc.Ent.right _ _).trans (Pc.Ent.left _ _))))))⟩
theorem own_sb {g c k : Nat} {x : Value} {C : Pc} (h : Post (rv.star (ru.star (it.star (C.star ((Pc.row e 1 (.slice (some ⟨g, 0, none⟩) n c) n xb).star (p6.star Z)))))) w0 F w) :
    Post (rv.star (ru.star (it.star (C.star ((Pc.row e 1 (.slice (some ⟨g, 0, none⟩) n c) n (xb.set k x)).star (p6.star Z)))))) w0 F (w.setCell ⟨g, k, none⟩ x) :=
  ((h.ent (Pc.perm [rv, ru, it, C, _, p6, Z] [4, 0, 1, 2, 3, 5, 6] (n := 7) (by decide))).step (row_set1 (i := k) x)).ent (Pc.perm [_, rv, ru, it, C, p6, Z] [1, 2, 3, 4, 0, 5, 6] (n := 7) (by decide))
theorem own_sc {g c k : Nat} {x : Value} {C : Pc} (h : Post (rv.star (ru.star (it.star (C.star (p5.star ((Pc.row e 1 (.slice (some ⟨g, 0, none⟩) n c) n xb).star Z)))))) w0 F w) :
    Post (rv.star (ru.star (it.star (C.star (p5.star ((Pc.row e 1 (.slice (some ⟨g, 0, none⟩) n c) n (xb.set k x)).star Z)))))) w0 F (w.setCell ⟨g, k, none⟩ x) :=
  ((h.ent (Pc.perm [rv, ru, it, C, p5, _, Z] [5, 0, 1, 2, 3, 4, 6] (n := 7) (by decide))).step (row_set1 (i := k) x)).ent (Pc.perm [_, rv, ru, it, C, p5, Z] [1, 2, 3, 4, 5, 0, 6] (n := 7) (by decide))
theorem row_bsnoc {v : Value} {l : List UInt8} {y : UInt8} {r : Pc} (h : Post ((Pc.row 5 1 v (l.length + 1) (l.map byteV ++ [.int .u8 (y.toNat : Int)])).star r) w0 F w) : Post ((rowOf v (l ++ [y])).star r) w0 F w := by
  unfold rowOf
  rw [List.length_append, List.map_append]
  exact h
end
set_option maxRecDepth 100000 in
set_option maxHeartbeats 40000000 in
theorem own_k : own_g.P1 := by
  intro w0 w F b i j B R hi hj hB Ab cb Ac cc Ae ce Ad cd N hil M hjl Q hdl HL u4 u5 u6 u7 u8 u9 u18 u19 u20 u21 u22 u23 u24 u25 u26 u27 u28 u29 u30 u31 u32 u33 u34 u35 u36 u37 u38 u39 u40 u41 u42 u43 u44 u45 u46 u47 u48 u49 u50 u51 u52 u53 u54 u55 u56 u57 u58 u59 u60 u61 u62 u63 u64 u65 u66 u67 u68 u69 u70 u71 u72 u73 u74 u75 u76 u77 u78 u79 u80 u81 u82 u83 u84 u85 u86 u87 u88 u89 u90 u91 u92 u93 u94 u95 u96 u97 u98 u99 u100 u101 u102 u103 u104 u105 u106 u107 u108 u109 u110 u111 u112 u113 u114 u115 u116 u117 u118 u119 u120 u121 u122 u123 u124 u125 u126 u127 u128 u129 u130 u131 u132 u133 u134 u135 u136 u137 u250 u251 u252 u253 u254 u255 u256 u257 u258 u259 u260 u261 u262 u263 u264 u265 u266 u267 u268 u269 u270 u271 u272 u273 u274 u275 u276 u277 u278 u279 u280 u281 u282 u283 u284 u285 u286 u287 u288 u289 u290 u291 u292 u293 u294 u295 u296 u297 u298 u299 u300 u301 u302 u303 u304 u305 u306 u307 u308 u309 u310 u311 u312 u313 u314 u315 u316 u317 u318 u319 u320 u321 u322 u323 u324 u325 u326 u327 u328 u329 u330 u331 u332 u333 u334 u335 u336 u337 u338 u339 u340 u341 u342 u343 u344 u345 u346 u347 u348 u349 u350 u351 u352 u353 u354 u355 wr u11 u12 u13 u138 u139 u140 u141 u142 u143 u144 u145 u146 u147 u148 u149 u150 u151 u152 u153 u154 u155 u156 u157 u158 u159 u160 u161 u162 u163 u164 u165 u166 u167 u168 u169 u170 u171 u172 u173 u174 u175 u176 u177 u178 u179 u180 u181 u182 u183 u184 u185 u186 u187 u188 u189 u190 u191 u192 u193 u194 u195 u196 u197 u198 u199 u200 u201 u202 u203 u204 u205 u206 u207 u208 u209 u210 u211 u212 u213 u214 u215 u216 u217 u218 u219 u220 u221 u222 u223 u224 u225 u226 u227 u228 u229 u230 u231 u232 u233 u234 u235 u236 u237 u238 u239 u240 u241 u242 u243 u244 u245 u246 u247 u248 u249 t I J D ht hlt HI HJ HD HP J3 K3 hJ3 hK3
  have HZ := Lib.hid (show Post ((BkC b (.slice Ab N cb) (.slice Ac N cc) (.slice Ae M ce) (.slice Ad Q cd)).star ((RbI (.slice Ab N cb) (.slice Ac N cc) I).star ((RgJ 23 47 5 (.slice Ae M ce) J).star ((RgJ 49 54 3 (.slice Ad Q cd) D).star R)))) w0 F wr from HP.out)
  clear HP
  generalize hZ : (RgJ 23 47 5 (.slice Ae M ce) J).star ((RgJ 49 54 3 (.slice Ad Q cd) D).star R) = Z at HZ
  have HZE := Lib.hid hZ
  clear hZ
  go_wp2_with fail
  go_loopw [11] (fun ix wr => RelU (BkC b (.slice Ab N cb) (.slice Ac N cc) (.slice Ae M ce) (.slice Ad Q cd)) Z (.slice Ab N cb) (.slice Ac N cc) w0 F N (B + t) ix wr) (fun ix _ => N - (intOf ix).toNat)
  case atStart => exact ⟨0, I, by omega, rfl, IOk2.start HI.out, HZ.out⟩
  case round =>
    clear HI HZ I
    obtain ⟨k, I, hk, rfl, hi2, hp⟩ := hrel
    have HI := Lib.hid hi2
    obtain ⟨hb, h1, h2⟩ := bk_cellsB hp
    obtain ⟨c0, -, -, -, f0, -, -, -⟩ := bcell4 hb
    rcases Nat.lt_or_ge k N with hlt3 | hge3
    · obtain ⟨y, hy⟩ : ∃ x, I[k]? = some x := ⟨_, List.getElem?_eq_getElem (by rw [hi2.len]; exact hlt3)⟩
      have hq := hp.ent (bk_openB hy)
      rw [hi2.len] at hq h1
      obtain ⟨-, -, -, r1, r2⟩ := opB_cells hq
      obtain ⟨g1, q1, e1, d1, f1⟩ := row_cell h1 (i := k) (x := y.v) (by rw [List.getElem?_map, hy]; rfl)
      injection e1 with e1 _ e1c
      subst e1
      subst e1c
      have hyb := hi2.bs k y hy
      rw [if_neg (by omega)] at hyb
      have HY := Lib.hid hy
      have HQd := Lib.hid (hq.still ((Mods.refl [] wr).drew))
      obtain ⟨yv, yu, ybs⟩ := y
      simp only at r1 r2 d1 HQd hyb
      obtain ⟨Av, cv, rfl⟩ := own_ctor r1
      have hM : (7 * (k : Int) + (t : Int)) % 256 = ((UInt8.ofNat (7 * k + t)).toNat : Int) := by rw [UInt8.toNat_ofNat']; omega
      generalize UInt8.ofNat (7 * k + t) = Y at *
      have HM := Lib.hid hM
      have HL := Lib.hid (fun o : Obj => ownsRow_mods (w := wr) r1 ((Mods.refl [] wr).alloc o).drew (by simp))
      obtain ⟨i0, hi0, hz0, hz1, hz2⟩ := info_parts info5
      clear hp hb h1 h2 hy hi2 hq r1 r2 hM
      go_upto_block 15 with fail
      go_cut [190] from 151 to 190 (fun _ w' => ∃ I', IOk2 N (B + t) (k + 1) I' ∧ Post ((BkC b (.slice (some ⟨g1, 0, none⟩) N cb) (.slice Ac N cc) (.slice Ae M ce) (.slice Ad Q cd)).star ((RbI (.slice (some ⟨g1, 0, none⟩) N cb) (.slice Ac N cc) I').star Z)) w0 F w')
      case first =>
        go_upto_region 32 with fail
        go_cut [169] from 151 to 170 (fun _ w' => ∃ v', Post (OpB b (.slice (some ⟨g1, 0, none⟩) N cb) (.slice Ac N cc) (.slice Ae M ce) (.slice Ad Q cd) v' yu (ybs ++ [Y]) ybs (items (I.eraseIdx k)) ((I.map It.v).set k v') (I.map It.u) N Z) w0 F w')
        case first =>
          have c0w : wr.cell? ⟨b, 0, none⟩ = some (.slice (some ⟨g1, 0, none⟩) N cb) := c0
          have c0a : (wr.alloc (.cells #[.int .u8 (Y.toNat : Int)] 5)).cell? ⟨b, 0, none⟩ = some (.slice (some ⟨g1, 0, none⟩) N cb) := by
            rw [((Mods.refl [] wr).alloc _).cell (World.block_lt_of_cell? _ _ c0w) (by simp)]
            exact c0w
          have d1w := d1
          have d1a : (wr.alloc (.cells #[.int .u8 (Y.toNat : Int)] 5)).cell? ⟨g1, k, none⟩ = some (.slice Av ybs.length cv) := by
            rw [((Mods.refl [] wr).alloc _).cell (World.block_lt_of_cell? _ _ d1w) (by simp)]
            exact d1w
          have s1 : IntKind.i64.wrap (7 * (k : Int)) = 7 * (k : Int) := IntWalk.i64_in _ (by omega)
          have s2 : IntKind.i64.wrap (7 * (k : Int) + (t : Int)) = 7 * (k : Int) + (t : Int) := IntWalk.i64_in _ (by omega)
          have s3 : IntKind.u8.wrap (7 * (k : Int) + (t : Int)) = (Y.toNat : Int) := by rw [IntKind.wrap_u8]; exact HM.out
          clear c0w d1w
          go_region_law (first | (refine step_app rfl _ _ 22 22 rfl 0 5 i0 (.int .u8 0) 1 1 Tryz.underlying22 hi0 hz0 hz1 hz2 rfl (.slice Av ybs.length cv) ybs.length (ybs.map byteV) rfl (HL.out _) (.slice (some ⟨wr.heap.size, 0, none⟩) 1 1) 1 [.int .u8 (Y.toNat : Int)] rfl (src_drew Tryz.underlying22 _ _ _ rfl) (by unfold maxLen; omega) (by omega) (Nat.zero_le _) ?_; intro v2 w4 hown hgrow hat; have hp5 := HQd.out.step (row_turn hown (grown_drew hgrow) (by simpa using hat)); obtain ⟨A2, c2, rfl⟩ := own_ctor hown; have hp7 := row_bsnoc (own_sb (k := k) (x := .slice A2 (ybs.length + 1) c2) hp5); have HP7 := Lib.hid hp7; obtain ⟨hb5, hr5⟩ := own_cb hp5; obtain ⟨c0', -, -, -, -, -, -, -⟩ := bcell4 hb5; obtain ⟨⟨x5, d1'⟩, f1'⟩ := row_cell5 hr5 hlt3; obtain ⟨hb7, -⟩ := own_cb hp7; obtain ⟨c0s, -, -, -, -, -, -, -⟩ := bcell4 hb7; clear hown hgrow hat hp5 hb5 hr5 hp7 hb7))
          all_goals
            first
              | (go_meet; case rel => exact ⟨_, HP7.out⟩)
              | (go_wp2_with fail; go_meet; case rel => exact ⟨_, HP7.out⟩)
        case rest =>
          obtain ⟨v', hp⟩ := hcut
          clear c0 f0 d1 f1 HL HQd
          rename World => w7
          obtain ⟨hb, h1, h2, r1, r2⟩ := opB_cells hp
          obtain ⟨-, c1, -, -, -, f0, -, -⟩ := bcell4 hb
          obtain ⟨g2, q2, e2, d1, f1⟩ := row_cell h2 (i := k) (x := yu) (by rw [List.getElem?_map, HY.out]; rfl)
          injection e2 with e2 _ e2c
          subst e2
          subst e2c
          obtain ⟨Au, cu, rfl⟩ := own_ctor r2
          have HQd := Lib.hid ((hp.ent (Pc.Ent.swap _ _ _)).still ((Mods.refl [] w7).drew))
          have HL := Lib.hid (fun o : Obj => ownsRow_mods (w := w7) r2 ((Mods.refl [] w7).alloc o).drew (by simp))
          clear hp hb h1 h2 r1 r2
          go_upto_region 33 with fail
          have c0w : w7.cell? ⟨b, 1, none⟩ = some (.slice (some ⟨g2, 0, none⟩) N cc) := c1
          have c0a : (w7.alloc (.cells #[.int .u8 (Y.toNat : Int)] 5)).cell? ⟨b, 1, none⟩ = some (.slice (some ⟨g2, 0, none⟩) N cc) := by
            rw [((Mods.refl [] w7).alloc _).cell (World.block_lt_of_cell? _ _ c0w) (by simp)]
            exact c0w
          have d1w := d1
          have d1a : (w7.alloc (.cells #[.int .u8 (Y.toNat : Int)] 5)).cell? ⟨g2, k, none⟩ = some (.slice Au ybs.length cu) := by
            rw [((Mods.refl [] w7).alloc _).cell (World.block_lt_of_cell? _ _ d1w) (by simp)]
            exact d1w
          have s1 : IntKind.i64.wrap (7 * (k : Int)) = 7 * (k : Int) := IntWalk.i64_in _ (by omega)
          have s2 : IntKind.i64.wrap (7 * (k : Int) + (t : Int)) = 7 * (k : Int) + (t : Int) := IntWalk.i64_in _ (by omega)
          have s3 : IntKind.u8.wrap (7 * (k : Int) + (t : Int)) = (Y.toNat : Int) := by rw [IntKind.wrap_u8]; exact HM.out
          clear c0w d1w
          go_region_law (first | (refine step_app rfl _ _ 22 22 rfl 0 5 i0 (.int .u8 0) 1 1 Tryz.underlying22 hi0 hz0 hz1 hz2 rfl (.slice Au ybs.length cu) ybs.length (ybs.map byteV) rfl (HL.out _) (.slice (some ⟨w7.heap.size, 0, none⟩) 1 1) 1 [.int .u8 (Y.toNat : Int)] rfl (src_drew Tryz.underlying22 _ _ _ rfl) (by unfold maxLen; omega) (by omega) (Nat.zero_le _) ?_; intro v2 w4 hown hgrow hat; have hp5 := HQd.out.step (row_turn hown (grown_drew hgrow) (by simpa using hat)); obtain ⟨A2, c2, rfl⟩ := own_ctor hown; have hp7 := row_bsnoc (own_sc (k := k) (x := .slice A2 (ybs.length + 1) c2) hp5); have HP7 := Lib.hid hp7; obtain ⟨hb5, hr5⟩ := own_cc5 hp5; obtain ⟨-, c0', -, -, -, -, -, -⟩ := bcell4 hb5; obtain ⟨⟨x5, d1'⟩, f1'⟩ := row_cell5 hr5 hlt3; obtain ⟨hb7, -⟩ := own_cc5 hp7; obtain ⟨-, c0s, -, -, -, -, -, -⟩ := bcell4 hb7; clear hown hgrow hat hp5 hb5 hr5 hp7 hb7))
          all_goals
            have hp7 := HP7.out.ent (Pc.Ent.swap _ _ _)
            have HR : Hid (∃ I', IOk2 N (B + t) (k + 1) I' ∧ Post ((BkC b (.slice (some ⟨g1, 0, none⟩) N cb) (.slice (some ⟨g2, 0, none⟩) N cc) (.slice Ae M ce) (.slice Ad Q cd)).star ((RbI (.slice (some ⟨g1, 0, none⟩) N cb) (.slice (some ⟨g2, 0, none⟩) N cc) I').star Z)) w0 F _) := Lib.hid ⟨I.set k ⟨v', .slice A2 (ybs.length + 1) c2, ybs ++ [Y]⟩, HI.out.set (by rw [List.length_append]; exact Nat.add_le_add_right hyb 1), hp7.ent (by
              have h := bk_shutB (b := b) (vb := .slice (some ⟨g1, 0, none⟩) N cb) (vc := .slice (some ⟨g2, 0, none⟩) N cc) (ve := .slice Ae M ce) (vd := .slice Ad Q cd) (Z := Z) (x := ⟨v', .slice A2 (ybs.length + 1) c2, ybs ++ [Y]⟩) (I := I) (i := k) (by rw [HI.out.len]; exact hlt3)
              rw [HI.out.len] at h
              exact h)⟩
            clear hp7
            first
              | (go_meet; case rel => exact HR.out)
              | (go_wp2_with fail; go_meet; case rel => exact HR.out)
      case rest =>
        clear c0 f0 d1 f1 HL HQd
        obtain ⟨I', hi2, hp⟩ := hcut
        have HR : Hid (RelU (BkC b (.slice (some ⟨g1, 0, none⟩) N cb) (.slice Ac N cc) (.slice Ae M ce) (.slice Ad Q cd)) Z (.slice (some ⟨g1, 0, none⟩) N cb) (.slice Ac N cc) w0 F N (B + t) (.int .i64 ((k : Int) + 1)) wc) := Lib.hid ⟨k + 1, I', by omega, rfl, hi2, hp⟩
        clear hi2 hp
        go_wp2_with fail
        exact ⟨HR.out, by simp only [intOf]; omega⟩
    · obtain rfl : k = N := by omega
      have HR : Hid (∃ I, IOk k (B + (t + 1)) I ∧ Post (Bk9 b Ab k cb Ac cc Ae M ce Ad Q cd I J D R) w0 F wr) := Lib.hid ⟨I, hi2.done, by rw [← HZE.out] at hp; exact hp⟩
      clear hp hb h1 h2 hi2
      go_wp2_with fail
      go_meet
      case rel => exact HR.out
end Go.Proofs.YtmcekhgmmocajaaGreatDoor
