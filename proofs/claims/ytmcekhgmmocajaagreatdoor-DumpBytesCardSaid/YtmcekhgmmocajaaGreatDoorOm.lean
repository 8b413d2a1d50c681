/- The Book's own: changes grow. -/
import Derived.Test.YtmcekhgmmocajaaGreatDoorO7
import Derived.Test.YtmcekhgmmocajaaGreatDoorOb
import Derived.Deep.RegionHeld
namespace Go.Proofs.YtmcekhgmmocajaaGreatDoor
open Go Go.RowKit Me

theorem src_drewC (w : World) (k : Nat) (o : Obj) : Src Tryz.prog 3 49 (.slice (some ⟨w.heap.size + 1, 0, none⟩) 1 1) 1 (cD k) (((w.alloc o).alloc (.cells (cD k).toArray 54)).drew) := by
  have h : Src Tryz.prog 3 49 (.slice (some ⟨(w.alloc o).heap.size, 0, none⟩) 1 1) 1 (cD k) (((w.alloc o).alloc (.cells (cD k).toArray 54)).drew) :=
    Src.ofSlice _ Tryz.underlying49 _ _ _ _ rfl (cells_new (w.alloc o) (cD k) 54) (cD_one k)
  rwa [show (w.alloc o).heap.size = w.heap.size + 1 by simp] at h
set_option maxRecDepth 100000 in
set_option maxHeartbeats 40000000 in
theorem own_m : own_g.P3 := by
  intro w0 w F b i j B R hi hj hB Ab cb Ac cc Ae ce Ad cd N hil M hjl Q hdl HL u4 u5 u6 u7 u8 u9 u18 u19 u20 u21 u22 u23 u24 u25 u26 u27 u28 u29 u30 u31 u32 u33 u34 u35 u36 u37 u38 u39 u40 u41 u42 u43 u44 u45 u46 u47 u48 u49 u50 u51 u52 u53 u54 u55 u56 u57 u58 u59 u60 u61 u62 u63 u64 u65 u66 u67 u68 u69 u70 u71 u72 u73 u74 u75 u76 u77 u78 u79 u80 u81 u82 u83 u84 u85 u86 u87 u88 u89 u90 u91 u92 u93 u94 u95 u96 u97 u98 u99 u100 u101 u102 u103 u104 u105 u106 u107 u108 u109 u110 u111 u112 u113 u114 u115 u116 u117 u118 u119 u120 u121 u122 u123 u124 u125 u126 u127 u128 u129 u130 u131 u132 u133 u134 u135 u136 u137 u250 u251 u252 u253 u254 u255 u256 u257 u258 u259 u260 u261 u262 u263 u264 u265 u266 u267 u268 u269 u270 u271 u272 u273 u274 u275 u276 u277 u278 u279 u280 u281 u282 u283 u284 u285 u286 u287 u288 u289 u290 u291 u292 u293 u294 u295 u296 u297 u298 u299 u300 u301 u302 u303 u304 u305 u306 u307 u308 u309 u310 u311 u312 u313 u314 u315 u316 u317 u318 u319 u320 u321 u322 u323 u324 u325 u326 u327 u328 u329 u330 u331 u332 u333 u334 u335 u336 u337 u338 u339 u340 u341 u342 u343 u344 u345 u346 u347 u348 u349 u350 u351 u352 u353 u354 u355 wr u13 u138 u139 u140 u141 u218 u219 u220 u221 u222 u223 u224 u225 u226 u227 u228 u229 u230 u231 u232 u233 u234 u235 u236 u237 u238 u239 u240 u241 u242 u243 u244 u245 u246 u247 u248 u249 t D ht hlt HD J2 K2 hJ2 hK2 w5 u11 u142 u143 u144 u145 u146 u147 u148 u149 u150 u151 u152 u153 u154 u155 u156 u157 u158 u159 u160 u161 u162 u163 u164 u165 u166 u167 u168 u169 u170 u171 u172 u173 u174 u175 u176 u177 u178 u179 u180 u181 u182 u183 u184 u185 u186 u187 u188 u189 u190 I HI w6 u12 u191 u192 u193 u194 u195 u196 u197 u198 u199 u200 u201 u202 u203 u204 u205 u206 u207 u208 u209 u210 u211 u212 u213 u214 u215 u216 u217 J HJ HP
  have HZ := Lib.hid (show Post ((BkC b (.slice Ab N cb) (.slice Ac N cc) (.slice Ae M ce) (.slice Ad Q cd)).star ((RgJ 49 54 3 (.slice Ad Q cd) D).star ((RbI (.slice Ab N cb) (.slice Ac N cc) I).star ((RgJ 23 47 5 (.slice Ae M ce) J).star R)))) w0 F w6 from HP.out.ent ((Pc.Ent.refl _).mono (Pc.Ent.at3 _ _ _ _)))
  clear HP
  generalize hZ : (RbI (.slice Ab N cb) (.slice Ac N cc) I).star ((RgJ 23 47 5 (.slice Ae M ce) J).star R) = Z at HZ
  have HZE := Lib.hid hZ
  clear hZ
  go_wp2_with fail
  go_loopw [13] (fun ix wr => RelT (BkC b (.slice Ab N cb) (.slice Ac N cc) (.slice Ae M ce) (.slice Ad Q cd)) 49 54 3 (.slice Ad Q cd) Z cD w0 F Q (B + t) ix wr) (fun ix _ => Q - (intOf ix).toNat)
  case atStart => exact ⟨0, D, by omega, rfl, RgT.start HD.out, HZ.out⟩
  case round =>
    clear HD HZ D
    obtain ⟨k, D, hk, rfl, hj2, hp⟩ := hrel
    have HD := Lib.hid hj2
    obtain ⟨hb, h1⟩ := bk_cellsG hp
    obtain ⟨-, -, -, c2, -, -, -, f2⟩ := bcell4 hb
    rcases Nat.lt_or_ge k Q with hlt3 | hge3
    · obtain ⟨y, hy⟩ : ∃ x, D[k]? = some x := ⟨_, List.getElem?_eq_getElem (by rw [hj2.len]; exact hlt3)⟩
      have hq := hp.ent (bk_openG hy)
      rw [hj2.len] at hq h1
      obtain ⟨-, -, r1⟩ := opG_cells hq
      obtain ⟨g1, q1, e1, d1, f1⟩ := row_cell h1 (i := k) (x := y.v) (by rw [List.getElem?_map, hy]; rfl)
      injection e1 with e1 _ e1c
      subst e1
      subst e1c
      obtain ⟨hyb, hyx⟩ := hj2.al k y hy
      rw [if_neg (by omega)] at hyb
      have HY := Lib.hid hy
      have HYX := Lib.hid hyx
      have HQd := Lib.hid (hq.still (((Mods.refl [] wr).alloc (.cells #[.int .u8 ((k : Int) % 256), .int .u8 ((k : Int) / 256 % 256)] 5)).drew))
      obtain ⟨yv, yn, yxs⟩ := y
      simp only at r1 d1 HQd hyb HYX
      obtain ⟨Av, cv, rfl⟩ := own_ctor r1
      have HL := Lib.hid (fun (o1 o2 : Obj) => ownsRow_mods (w := wr) r1 (((Mods.refl [] wr).alloc o1).alloc o2).drew (by simp))
      obtain ⟨i0, hi0, hz0, hz1, hz2⟩ := info_parts info54z
      clear hp hb h1 hy hyx hj2 hq r1
      go_upto_block 19 with fail
      go_cut [249] from 227 to 249 (fun _ w' => ∃ J', RgT cD Q (B + t) (k + 1) J' ∧ Post ((BkC b (.slice Ab N cb) (.slice Ac N cc) (.slice Ae M ce) (.slice (some ⟨g1, 0, none⟩) Q cd)).star ((RgJ 49 54 3 (.slice (some ⟨g1, 0, none⟩) Q cd) J').star Z)) w0 F w')
      case first =>
        have c0w : wr.cell? ⟨b, 3, none⟩ = some (.slice (some ⟨g1, 0, none⟩) Q cd) := c2
        have c0a : (wr.alloc (.cells #[.int .u8 ((k : Int) % 256), .int .u8 ((k : Int) / 256 % 256)] 5)).cell? ⟨b, 3, none⟩ = some (.slice (some ⟨g1, 0, none⟩) Q cd) := by
          rw [((Mods.refl [] wr).alloc _).cell (World.block_lt_of_cell? _ _ c0w) (by simp)]
          exact c0w
        have c0b : ((wr.alloc (.cells #[.int .u8 ((k : Int) % 256), .int .u8 ((k : Int) / 256 % 256)] 5)).alloc (.cells #[.string (mkS k), .bool false, .bool false] 54)).cell? ⟨b, 3, none⟩ = some (.slice (some ⟨g1, 0, none⟩) Q cd) := by
          rw [(((Mods.refl [] wr).alloc _).alloc _).cell (World.block_lt_of_cell? _ _ c0w) (by simp)]
          exact c0w
        have d1w := d1
        have d1a : (wr.alloc (.cells #[.int .u8 ((k : Int) % 256), .int .u8 ((k : Int) / 256 % 256)] 5)).cell? ⟨g1, k, none⟩ = some (.slice Av yn cv) := by
          rw [((Mods.refl [] wr).alloc _).cell (World.block_lt_of_cell? _ _ d1w) (by simp)]
          exact d1w
        have d1b : ((wr.alloc (.cells #[.int .u8 ((k : Int) % 256), .int .u8 ((k : Int) / 256 % 256)] 5)).alloc (.cells #[.string (mkS k), .bool false, .bool false] 54)).cell? ⟨g1, k, none⟩ = some (.slice Av yn cv) := by
          rw [(((Mods.refl [] wr).alloc _).alloc _).cell (World.block_lt_of_cell? _ _ d1w) (by simp)]
          exact d1w
        have s1 : IntKind.u8.wrap (k : Int) = (k : Int) % 256 := IntKind.wrap_u8 _
        have s2 : IntKind.i64.wrap ((k : Int) / 256) = (k : Int) / 256 := IntWalk.i64_in _ (by omega)
        have s3 : IntKind.u8.wrap ((k : Int) / 256) = (k : Int) / 256 % 256 := IntKind.wrap_u8 _
        have hcv := conv_mk wr k
        clear c0w d1w
        go_upto_region 41 with fail
        refine wp_region_held_drew (S := fun W => W.cell? ⟨b, 3, none⟩ = some (.slice (some ⟨g1, 0, none⟩) Q cd)) (by kernel_rfl) c2 (fun hHeld => ?_)
        refine wpAnyH_take (i := 0) (v := ?_) rfl (by kernel_rfl) (by kernel_rfl) (by kernel_rfl) (fun _ _ _ h => h) (Or.inl ⟨by rfl, ?_⟩) hHeld ?_
        rotate_left
        · intro w hSw
          first | (go_simp; done) | (go_simp; with_reducible rfl)
        try go_simp
        refine wpAnyH_take (i := 1) (v := ?_) rfl (by kernel_rfl) (by kernel_rfl) (by kernel_rfl) (fun _ _ _ h => h) (Or.inl ⟨by rfl, ?_⟩) hHeld ?_
        rotate_left
        · intro w hSw
          first | (go_simp; done) | (go_simp; with_reducible rfl)
        try go_simp
        refine wpAnyH_take (i := 2) (v := ?_) rfl (by kernel_rfl) (by kernel_rfl) (by kernel_rfl) (fun _ _ _ h => h) (Or.inl ⟨by rfl, ?_⟩) hHeld ?_
        rotate_left
        · intro w hSw
          first | (go_simp; done) | (go_simp; with_reducible rfl)
        try go_simp
        refine wpAnyH_take (i := 3) (v := ?_) rfl (by kernel_rfl) (by kernel_rfl) (by kernel_rfl) (fun _ _ _ h => h) (Or.inl ⟨by rfl, ?_⟩) hHeld ?_
        rotate_left
        · intro w hSw
          first | (go_simp; done) | (go_simp; with_reducible rfl)
        try go_simp
        refine wpAnyH_take (i := 4) (v := ?_) rfl (by kernel_rfl) (by kernel_rfl) (by kernel_rfl) (fun _ _ _ h => h) (Or.inl ⟨by rfl, ?_⟩) hHeld ?_
        rotate_left
        · intro w hSw
          first | (go_simp; done) | (go_simp; with_reducible rfl)
        try go_simp
        refine wpAnyH_take (i := 5) (v := ?_) rfl (by kernel_rfl) (by kernel_rfl) (by kernel_rfl) (fun _ _ _ h => h) (Or.inl ⟨by rfl, ?_⟩) hHeld ?_
        rotate_left
        · intro w hSw
          first | (go_simp; done) | (go_simp; with_reducible rfl)
        try go_simp
        refine wpAnyH_take (i := 6) (v := ?_) rfl (by kernel_rfl) (by kernel_rfl) (by kernel_rfl) (fun _ _ _ h => h) (Or.inl ⟨by rfl, ?_⟩) hHeld ?_
        rotate_left
        · intro w hSw
          first | (go_simp; done) | (go_simp; with_reducible rfl)
        try go_simp
        refine wpAnyH_take (i := 7) (v := ?_) rfl (by kernel_rfl) (by kernel_rfl) (by kernel_rfl) (fun _ _ _ h => h) (Or.inl ⟨by rfl, ?_⟩) hHeld ?_
        rotate_left
        · intro w hSw
          first | (go_simp; done) | (go_simp; with_reducible rfl)
        try go_simp
        refine wpAnyH_take (i := 8) (v := ?_) rfl (by kernel_rfl) (by kernel_rfl) (by kernel_rfl) (fun _ _ _ h => h) (Or.inl ⟨by rfl, ?_⟩) hHeld ?_
        rotate_left
        · intro w hSw
          first | (go_simp; done) | (go_simp; with_reducible rfl)
        try go_simp
        refine wpAnyH_take (i := 9) (v := ?_) rfl (by kernel_rfl) (by kernel_rfl) (by kernel_rfl) (fun _ _ _ h => h) (Or.inl ⟨by rfl, ?_⟩) hHeld ?_
        rotate_left
        · intro w hSw
          first | (go_simp; done) | (go_simp; with_reducible rfl)
        try go_simp
        refine wpAnyH_take (i := 10) (v := ?_) rfl (by kernel_rfl) (by kernel_rfl) (by kernel_rfl) (fun _ _ _ h => h) (Or.inl ⟨by rfl, ?_⟩) hHeld ?_
        rotate_left
        · intro w hSw
          first | (go_simp; done) | (go_simp; with_reducible rfl)
        try go_simp
        refine wpAnyH_take (i := 12) (v := ?_) rfl (by kernel_rfl) (by kernel_rfl) (by kernel_rfl) (fun _ _ _ h => h) (Or.inl ⟨by rfl, ?_⟩) hHeld ?_
        rotate_left
        · intro w hSw
          first | (go_simp; done) | (go_simp; with_reducible rfl)
        try go_simp
        refine wpAnyH_take (i := 13) (v := ?_) rfl (by kernel_rfl) (by kernel_rfl) (by kernel_rfl) (fun _ _ _ h => h) (Or.inl ⟨by rfl, ?_⟩) hHeld ?_
        rotate_left
        · intro w hSw
          first | (go_simp; done) | (go_simp; with_reducible rfl)
        try go_simp
        refine wpAnyH_take (i := 14) (v := ?_) rfl (by kernel_rfl) (by kernel_rfl) (by kernel_rfl) (fun _ _ _ h => h) (Or.inl ⟨by rfl, ?_⟩) hHeld ?_
        rotate_left
        · intro w hSw
          first | (go_simp; done) | (go_simp; with_reducible rfl)
        try go_simp
        refine wpAnyH_take (i := 15) (v := ?_) rfl (by kernel_rfl) (by kernel_rfl) (by kernel_rfl) (fun _ _ _ h => h) (Or.inl ⟨by rfl, ?_⟩) hHeld ?_
        rotate_left
        · intro w hSw
          first | (go_simp; done) | (go_simp; with_reducible rfl)
        try go_simp
        refine wpAnyH_take (i := 16) (v := ?_) rfl (by kernel_rfl) (by kernel_rfl) (by kernel_rfl) (fun _ _ _ h => h) (Or.inl ⟨by rfl, ?_⟩) hHeld ?_
        rotate_left
        · intro w hSw
          first | (go_simp; done) | (go_simp; with_reducible rfl)
        try go_simp
        refine wpAnyH_ready (rs := [11, 17]) (by kernel_rfl) (by simp) ?_
        refine AllReadyH.cons rfl (fun K hK => ?_) ?_
        · go_simp
          refine hK.out _ _ ?_ (fun hHeld => ?_)
          · exact c2
          clear hK K
          refine wpAnyH_ready (rs := [17]) (by kernel_rfl) (by simp) ?_
          refine AllReadyH.cons rfl (fun K hK => ?_) ?_
          · go_simp
            refine hK.out _ _ ?_ (fun hHeld => ?_)
            · exact c0a
            clear hK K
            refine wpAnyH_ready (rs := [18]) (by kernel_rfl) (by simp) ?_
            refine AllReadyH.cons rfl (fun K hK => ?_) ?_
            · go_simp
              refine hK.out _ _ ?_ (fun hHeld => ?_)
              · exact c0a
              clear hK K
              refine wpAnyH_take (i := 19) (v := ?_) rfl (by kernel_rfl) (by kernel_rfl) (by kernel_rfl) (fun _ _ _ h => h) (Or.inl ⟨by rfl, ?_⟩) hHeld ?_
              rotate_left
              · intro w hSw
                first | (go_simp; done) | (go_simp; with_reducible rfl)
              try go_simp
              refine wpAnyH_ready (rs := [20]) (by kernel_rfl) (by simp) ?_
              refine AllReadyH.cons rfl (fun K hK => ?_) ?_
              · go_simp
                refine hK.out _ _ ?_ (fun hHeld => ?_)
                · exact c0b
                clear hK K
                refine wpAnyH_ready (rs := [21]) (by kernel_rfl) (by simp) ?_
                refine AllReadyH.cons rfl (fun K hK => ?_) ?_
                · refine step_app rfl _ _ 49 49 rfl 0 54 i0 (.agg #[.string ⟨#[]⟩, .bool false, .bool false]) 3 24 Tryz.underlying49 hi0 hz0 hz1 hz2 rfl (.slice Av yn cv) yn yxs rfl (HL.out _ _) (.slice (some ⟨wr.heap.size + 1, 0, none⟩) 1 1) 1 (cD k) rfl (src_drewC _ _ _) (by unfold maxLen; omega) (by omega) (Nat.zero_le _) ?_
                  intro v2 w4 hown hgrow hat
                  have hp5 := HQd.out.step (row_turn (o := (.cells #[.string (mkS k), .bool false, .bool false] 54)) hown hgrow (by simpa using hat))
                  obtain ⟨A2, c2', rfl⟩ := own_ctor hown
                  have hp7 := grow_g (k := k) (x := .slice A2 (yn + 1) c2') hp5
                  have HP7 := Lib.hid hp7
                  obtain ⟨hb5, hr5⟩ := grow_c hp5
                  obtain ⟨-, -, -, c0', -, -, -, -⟩ := bcell4 hb5
                  obtain ⟨⟨x5, d1'⟩, f1'⟩ := row_cell5 hr5 hlt3
                  obtain ⟨hb7, -⟩ := grow_c hp7
                  obtain ⟨-, -, -, c0s, -, -, -, -⟩ := bcell4 hb7
                  clear hown hgrow hat hp5 hb5 hr5 hp7 hb7
                  try go_simp
                  refine hK.out _ _ ?_ (fun hHeld => ?_)
                  · exact c0'
                  clear hK K
                  refine wpAnyH_take (i := 22) (v := ?_) rfl (by kernel_rfl) (by kernel_rfl) (by kernel_rfl) (fun _ _ _ h => h) (Or.inl ⟨by rfl, ?_⟩) hHeld ?_
                  rotate_left
                  · intro w hSw
                    first | (go_simp; done) | (go_simp; with_reducible rfl)
                  try go_simp
                  refine wpAnyH_ready (rs := [23]) (by kernel_rfl) (by simp) ?_
                  refine AllReadyH.cons rfl (fun K hK => ?_) ?_
                  · go_simp
                    refine hK.out _ _ ?_ (fun hHeld => ?_)
                    · exact c0s
                    clear hK K
                    refine wpAnyH_done (by kernel_rfl) ?_ _
                    have HR : Hid (∃ J', RgT cD Q (B + t) (k + 1) J' ∧ Post ((BkC b (.slice Ab N cb) (.slice Ac N cc) (.slice Ae M ce) (.slice (some ⟨g1, 0, none⟩) Q cd)).star ((RgJ 49 54 3 (.slice (some ⟨g1, 0, none⟩) Q cd) J').star Z)) w0 F _) := Lib.hid ⟨D.set k ⟨.slice A2 (yn + 1) c2', yn + 1, yxs ++ cD k⟩, HD.out.set (by show yn + 1 ≤ _; omega) (by show yxs ++ cD k = reps (cD k) (yn + 1); rw [HYX.out]; rfl), HP7.out.ent (by
                      have h := bk_shutG (C := BkC b (.slice Ab N cb) (.slice Ac N cc) (.slice Ae M ce) (.slice (some ⟨g1, 0, none⟩) Q cd)) (T := 49) (e := 54) (size := 3) (vs := .slice (some ⟨g1, 0, none⟩) Q cd) (Z := Z) (x := ⟨.slice A2 (yn + 1) c2', yn + 1, yxs ++ cD k⟩) (J := D) (i := k) (by rw [HD.out.len]; exact hlt3)
                      rw [HD.out.len] at h
                      exact h)⟩
                    first
                      | (go_meet; case rel => exact HR.out)
                      | (go_wp2_with fail; go_meet; case rel => exact HR.out)
                  exact AllReadyH.nil
                exact AllReadyH.nil
              exact AllReadyH.nil
            exact AllReadyH.nil
          exact AllReadyH.nil
        refine AllReadyH.cons rfl (fun K hK => ?_) ?_
        · go_simp
          refine hK.out _ _ ?_ (fun hHeld => ?_)
          · exact c0a
          clear hK K
          refine wpAnyH_ready (rs := [11, 18]) (by kernel_rfl) (by simp) ?_
          refine AllReadyH.cons rfl (fun K hK => ?_) ?_
          · go_simp
            refine hK.out _ _ ?_ (fun hHeld => ?_)
            · exact c0a
            clear hK K
            refine wpAnyH_ready (rs := [18]) (by kernel_rfl) (by simp) ?_
            refine AllReadyH.cons rfl (fun K hK => ?_) ?_
            · go_simp
              refine hK.out _ _ ?_ (fun hHeld => ?_)
              · exact c0a
              clear hK K
              refine wpAnyH_take (i := 19) (v := ?_) rfl (by kernel_rfl) (by kernel_rfl) (by kernel_rfl) (fun _ _ _ h => h) (Or.inl ⟨by rfl, ?_⟩) hHeld ?_
              rotate_left
              · intro w hSw
                first | (go_simp; done) | (go_simp; with_reducible rfl)
              try go_simp
              refine wpAnyH_ready (rs := [20]) (by kernel_rfl) (by simp) ?_
              refine AllReadyH.cons rfl (fun K hK => ?_) ?_
              · go_simp
                refine hK.out _ _ ?_ (fun hHeld => ?_)
                · exact c0b
                clear hK K
                refine wpAnyH_ready (rs := [21]) (by kernel_rfl) (by simp) ?_
                refine AllReadyH.cons rfl (fun K hK => ?_) ?_
                · refine step_app rfl _ _ 49 49 rfl 0 54 i0 (.agg #[.string ⟨#[]⟩, .bool false, .bool false]) 3 24 Tryz.underlying49 hi0 hz0 hz1 hz2 rfl (.slice Av yn cv) yn yxs rfl (HL.out _ _) (.slice (some ⟨wr.heap.size + 1, 0, none⟩) 1 1) 1 (cD k) rfl (src_drewC _ _ _) (by unfold maxLen; omega) (by omega) (Nat.zero_le _) ?_
                  intro v2 w4 hown hgrow hat
                  have hp5 := HQd.out.step (row_turn (o := (.cells #[.string (mkS k), .bool false, .bool false] 54)) hown hgrow (by simpa using hat))
                  obtain ⟨A2, c2', rfl⟩ := own_ctor hown
                  have hp7 := grow_g (k := k) (x := .slice A2 (yn + 1) c2') hp5
                  have HP7 := Lib.hid hp7
                  obtain ⟨hb5, hr5⟩ := grow_c hp5
                  obtain ⟨-, -, -, c0', -, -, -, -⟩ := bcell4 hb5
                  obtain ⟨⟨x5, d1'⟩, f1'⟩ := row_cell5 hr5 hlt3
                  obtain ⟨hb7, -⟩ := grow_c hp7
                  obtain ⟨-, -, -, c0s, -, -, -, -⟩ := bcell4 hb7
                  clear hown hgrow hat hp5 hb5 hr5 hp7 hb7
                  try go_simp
                  refine hK.out _ _ ?_ (fun hHeld => ?_)
                  · exact c0'
                  clear hK K
                  refine wpAnyH_take (i := 22) (v := ?_) rfl (by kernel_rfl) (by kernel_rfl) (by kernel_rfl) (fun _ _ _ h => h) (Or.inl ⟨by rfl, ?_⟩) hHeld ?_
                  rotate_left
                  · intro w hSw
                    first | (go_simp; done) | (go_simp; with_reducible rfl)
                  try go_simp
                  refine wpAnyH_ready (rs := [23]) (by kernel_rfl) (by simp) ?_
                  refine AllReadyH.cons rfl (fun K hK => ?_) ?_
                  · go_simp
                    refine hK.out _ _ ?_ (fun hHeld => ?_)
                    · exact c0s
                    clear hK K
                    refine wpAnyH_done (by kernel_rfl) ?_ _
                    have HR : Hid (∃ J', RgT cD Q (B + t) (k + 1) J' ∧ Post ((BkC b (.slice Ab N cb) (.slice Ac N cc) (.slice Ae M ce) (.slice (some ⟨g1, 0, none⟩) Q cd)).star ((RgJ 49 54 3 (.slice (some ⟨g1, 0, none⟩) Q cd) J').star Z)) w0 F _) := Lib.hid ⟨D.set k ⟨.slice A2 (yn + 1) c2', yn + 1, yxs ++ cD k⟩, HD.out.set (by show yn + 1 ≤ _; omega) (by show yxs ++ cD k = reps (cD k) (yn + 1); rw [HYX.out]; rfl), HP7.out.ent (by
                      have h := bk_shutG (C := BkC b (.slice Ab N cb) (.slice Ac N cc) (.slice Ae M ce) (.slice (some ⟨g1, 0, none⟩) Q cd)) (T := 49) (e := 54) (size := 3) (vs := .slice (some ⟨g1, 0, none⟩) Q cd) (Z := Z) (x := ⟨.slice A2 (yn + 1) c2', yn + 1, yxs ++ cD k⟩) (J := D) (i := k) (by rw [HD.out.len]; exact hlt3)
                      rw [HD.out.len] at h
                      exact h)⟩
                    first
                      | (go_meet; case rel => exact HR.out)
                      | (go_wp2_with fail; go_meet; case rel => exact HR.out)
                  exact AllReadyH.nil
                exact AllReadyH.nil
              exact AllReadyH.nil
            exact AllReadyH.nil
          refine AllReadyH.cons rfl (fun K hK => ?_) ?_
          · go_simp
            refine hK.out _ _ ?_ (fun hHeld => ?_)
            · exact c0a
            clear hK K
            refine wpAnyH_take (i := 19) (v := ?_) rfl (by kernel_rfl) (by kernel_rfl) (by kernel_rfl) (fun _ _ _ h => h) (Or.inl ⟨by rfl, ?_⟩) hHeld ?_
            rotate_left
            · intro w hSw
              first | (go_simp; done) | (go_simp; with_reducible rfl)
            try go_simp
            refine wpAnyH_ready (rs := [11, 20]) (by kernel_rfl) (by simp) ?_
            refine AllReadyH.cons rfl (fun K hK => ?_) ?_
            · go_simp
              refine hK.out _ _ ?_ (fun hHeld => ?_)
              · exact c0a
              clear hK K
              refine wpAnyH_ready (rs := [20]) (by kernel_rfl) (by simp) ?_
              refine AllReadyH.cons rfl (fun K hK => ?_) ?_
              · go_simp
                refine hK.out _ _ ?_ (fun hHeld => ?_)
                · exact c0b
                clear hK K
                refine wpAnyH_ready (rs := [21]) (by kernel_rfl) (by simp) ?_
                refine AllReadyH.cons rfl (fun K hK => ?_) ?_
                · refine step_app rfl _ _ 49 49 rfl 0 54 i0 (.agg #[.string ⟨#[]⟩, .bool false, .bool false]) 3 24 Tryz.underlying49 hi0 hz0 hz1 hz2 rfl (.slice Av yn cv) yn yxs rfl (HL.out _ _) (.slice (some ⟨wr.heap.size + 1, 0, none⟩) 1 1) 1 (cD k) rfl (src_drewC _ _ _) (by unfold maxLen; omega) (by omega) (Nat.zero_le _) ?_
                  intro v2 w4 hown hgrow hat
                  have hp5 := HQd.out.step (row_turn (o := (.cells #[.string (mkS k), .bool false, .bool false] 54)) hown hgrow (by simpa using hat))
                  obtain ⟨A2, c2', rfl⟩ := own_ctor hown
                  have hp7 := grow_g (k := k) (x := .slice A2 (yn + 1) c2') hp5
                  have HP7 := Lib.hid hp7
                  obtain ⟨hb5, hr5⟩ := grow_c hp5
                  obtain ⟨-, -, -, c0', -, -, -, -⟩ := bcell4 hb5
                  obtain ⟨⟨x5, d1'⟩, f1'⟩ := row_cell5 hr5 hlt3
                  obtain ⟨hb7, -⟩ := grow_c hp7
                  obtain ⟨-, -, -, c0s, -, -, -, -⟩ := bcell4 hb7
                  clear hown hgrow hat hp5 hb5 hr5 hp7 hb7
                  try go_simp
                  refine hK.out _ _ ?_ (fun hHeld => ?_)
                  · exact c0'
                  clear hK K
                  refine wpAnyH_take (i := 22) (v := ?_) rfl (by kernel_rfl) (by kernel_rfl) (by kernel_rfl) (fun _ _ _ h => h) (Or.inl ⟨by rfl, ?_⟩) hHeld ?_
                  rotate_left
                  · intro w hSw
                    first | (go_simp; done) | (go_simp; with_reducible rfl)
                  try go_simp
                  refine wpAnyH_ready (rs := [23]) (by kernel_rfl) (by simp) ?_
                  refine AllReadyH.cons rfl (fun K hK => ?_) ?_
                  · go_simp
                    refine hK.out _ _ ?_ (fun hHeld => ?_)
                    · exact c0s
                    clear hK K
                    refine wpAnyH_done (by kernel_rfl) ?_ _
                    have HR : Hid (∃ J', RgT cD Q (B + t) (k + 1) J' ∧ Post ((BkC b (.slice Ab N cb) (.slice Ac N cc) (.slice Ae M ce) (.slice (some ⟨g1, 0, none⟩) Q cd)).star ((RgJ 49 54 3 (.slice (some ⟨g1, 0, none⟩) Q cd) J').star Z)) w0 F _) := Lib.hid ⟨D.set k ⟨.slice A2 (yn + 1) c2', yn + 1, yxs ++ cD k⟩, HD.out.set (by show yn + 1 ≤ _; omega) (by show yxs ++ cD k = reps (cD k) (yn + 1); rw [HYX.out]; rfl), HP7.out.ent (by
                      have h := bk_shutG (C := BkC b (.slice Ab N cb) (.slice Ac N cc) (.slice Ae M ce) (.slice (some ⟨g1, 0, none⟩) Q cd)) (T := 49) (e := 54) (size := 3) (vs := .slice (some ⟨g1, 0, none⟩) Q cd) (Z := Z) (x := ⟨.slice A2 (yn + 1) c2', yn + 1, yxs ++ cD k⟩) (J := D) (i := k) (by rw [HD.out.len]; exact hlt3)
                      rw [HD.out.len] at h
                      exact h)⟩
                    first
                      | (go_meet; case rel => exact HR.out)
                      | (go_wp2_with fail; go_meet; case rel => exact HR.out)
                  exact AllReadyH.nil
                exact AllReadyH.nil
              exact AllReadyH.nil
            refine AllReadyH.cons rfl (fun K hK => ?_) ?_
            · go_simp
              refine hK.out _ _ ?_ (fun hHeld => ?_)
              · exact c0b
              clear hK K
              refine wpAnyH_ready (rs := [11]) (by kernel_rfl) (by simp) ?_
              refine AllReadyH.cons rfl (fun K hK => ?_) ?_
              · go_simp
                refine hK.out _ _ ?_ (fun hHeld => ?_)
                · exact c0b
                clear hK K
                refine wpAnyH_ready (rs := [21]) (by kernel_rfl) (by simp) ?_
                refine AllReadyH.cons rfl (fun K hK => ?_) ?_
                · refine step_app rfl _ _ 49 49 rfl 0 54 i0 (.agg #[.string ⟨#[]⟩, .bool false, .bool false]) 3 24 Tryz.underlying49 hi0 hz0 hz1 hz2 rfl (.slice Av yn cv) yn yxs rfl (HL.out _ _) (.slice (some ⟨wr.heap.size + 1, 0, none⟩) 1 1) 1 (cD k) rfl (src_drewC _ _ _) (by unfold maxLen; omega) (by omega) (Nat.zero_le _) ?_
                  intro v2 w4 hown hgrow hat
                  have hp5 := HQd.out.step (row_turn (o := (.cells #[.string (mkS k), .bool false, .bool false] 54)) hown hgrow (by simpa using hat))
                  obtain ⟨A2, c2', rfl⟩ := own_ctor hown
                  have hp7 := grow_g (k := k) (x := .slice A2 (yn + 1) c2') hp5
                  have HP7 := Lib.hid hp7
                  obtain ⟨hb5, hr5⟩ := grow_c hp5
                  obtain ⟨-, -, -, c0', -, -, -, -⟩ := bcell4 hb5
                  obtain ⟨⟨x5, d1'⟩, f1'⟩ := row_cell5 hr5 hlt3
                  obtain ⟨hb7, -⟩ := grow_c hp7
                  obtain ⟨-, -, -, c0s, -, -, -, -⟩ := bcell4 hb7
                  clear hown hgrow hat hp5 hb5 hr5 hp7 hb7
                  try go_simp
                  refine hK.out _ _ ?_ (fun hHeld => ?_)
                  · exact c0'
                  clear hK K
                  refine wpAnyH_take (i := 22) (v := ?_) rfl (by kernel_rfl) (by kernel_rfl) (by kernel_rfl) (fun _ _ _ h => h) (Or.inl ⟨by rfl, ?_⟩) hHeld ?_
                  rotate_left
                  · intro w hSw
                    first | (go_simp; done) | (go_simp; with_reducible rfl)
                  try go_simp
                  refine wpAnyH_ready (rs := [23]) (by kernel_rfl) (by simp) ?_
                  refine AllReadyH.cons rfl (fun K hK => ?_) ?_
                  · go_simp
                    refine hK.out _ _ ?_ (fun hHeld => ?_)
                    · exact c0s
                    clear hK K
                    refine wpAnyH_done (by kernel_rfl) ?_ _
                    have HR : Hid (∃ J', RgT cD Q (B + t) (k + 1) J' ∧ Post ((BkC b (.slice Ab N cb) (.slice Ac N cc) (.slice Ae M ce) (.slice (some ⟨g1, 0, none⟩) Q cd)).star ((RgJ 49 54 3 (.slice (some ⟨g1, 0, none⟩) Q cd) J').star Z)) w0 F _) := Lib.hid ⟨D.set k ⟨.slice A2 (yn + 1) c2', yn + 1, yxs ++ cD k⟩, HD.out.set (by show yn + 1 ≤ _; omega) (by show yxs ++ cD k = reps (cD k) (yn + 1); rw [HYX.out]; rfl), HP7.out.ent (by
                      have h := bk_shutG (C := BkC b (.slice Ab N cb) (.slice Ac N cc) (.slice Ae M ce) (.slice (some ⟨g1, 0, none⟩) Q cd)) (T := 49) (e := 54) (size := 3) (vs := .slice (some ⟨g1, 0, none⟩) Q cd) (Z := Z) (x := ⟨.slice A2 (yn + 1) c2', yn + 1, yxs ++ cD k⟩) (J := D) (i := k) (by rw [HD.out.len]; exact hlt3)
                      rw [HD.out.len] at h
                      exact h)⟩
                    first
                      | (go_meet; case rel => exact HR.out)
                      | (go_wp2_with fail; go_meet; case rel => exact HR.out)
                  exact AllReadyH.nil
                exact AllReadyH.nil
              exact AllReadyH.nil
            exact AllReadyH.nil
          exact AllReadyH.nil
        exact AllReadyH.nil
      case rest =>
        clear c2 f2 d1 f1 HL HQd
        obtain ⟨J', hj2, hp⟩ := hcut
        have HR : Hid (RelT (BkC b (.slice Ab N cb) (.slice Ac N cc) (.slice Ae M ce) (.slice (some ⟨g1, 0, none⟩) Q cd)) 49 54 3 (.slice (some ⟨g1, 0, none⟩) Q cd) Z cD w0 F Q (B + t) (.int .i64 ((k : Int) + 1)) wc) := Lib.hid ⟨k + 1, J', by omega, rfl, hj2, hp⟩
        clear hj2 hp
        go_wp2_with fail
        exact ⟨HR.out, by simp only [intOf]; omega⟩
    · obtain rfl : k = Q := by omega
      have HR : Hid (∃ I J D, IOk N (B + (t + 1)) I ∧ RgM cE M (B + (t + 1)) J ∧ RgM cD k (B + (t + 1)) D ∧ Post (Bk9 b Ab N cb Ac cc Ae M ce Ad k cd I J D R) w0 F wr) := Lib.hid ⟨I, J, D, HI.out, HJ.out, hj2.done, by rw [← HZE.out] at hp; exact hp.ent ((Pc.Ent.refl _).mono (Pc.perm [RgJ 49 54 3 (.slice Ad k cd) D, RbI (.slice Ab N cb) (.slice Ac N cc) I, RgJ 23 47 5 (.slice Ae M ce) J, R] [1, 2, 0, 3] (n := 4) (by decide)))⟩
      clear hp hb h1 hj2
      go_wp2_with fail
      go_meet
      case rel => exact HR.out
end Go.Proofs.YtmcekhgmmocajaaGreatDoor
