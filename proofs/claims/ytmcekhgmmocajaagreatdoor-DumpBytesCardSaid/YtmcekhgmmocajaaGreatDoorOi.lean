/- The Book's own: stage 6, the end (printed by wip/bin/genown2.py). | The Book's own: the marks of the changes stand. -/
import Derived.Test.YtmcekhgmmocajaaGreatDoorOn
import Derived.Deep.CutBlock
import Derived.Deep.CutRange
import Derived.Test.YtmcekhgmmocajaaGreatDoorOb
import Derived.Laws.StructEq
import Derived.Deep.RegionLaw
namespace Go.Proofs.YtmcekhgmmocajaaGreatDoor
open Go Go.RowKit Me

set_option maxRecDepth 100000 in
set_option maxHeartbeats 40000000 in
noncomputable def own_s6 : {P : Prop // Hid P → own_s5.P2} := Subtype.mk _ (by
  intro hP1
  intro w0 w F b i j B R hi hj hB Ab cb Ac cc Ae ce Ad cd N hil M hjl Q hdl HL Q0 u4 u5 u6 u7 u8 u9 u10 u11 u12 u13 I J D HI HJ HD w6 u2 u14 u15 u18 u19 u20 u21 u22 u23 u24 u25 u26 u27 u28 u29 u30 u31 u32 u33 u34 u35 u36 u37 u38 u39 u40 u41 u42 u43 u44 u45 u46 u47 u48 u49 u50 u51 u52 u53 u54 u55 u56 u57 u58 u59 u60 u61 u62 u63 u64 u65 u66 u67 u68 u69 u70 u71 u72 u73 u74 u75 u76 u77 u78 u79 u80 u81 u82 u83 u84 u85 u86 u87 u88 u89 u90 u91 u92 u93 u94 u95 u96 u97 u98 u99 u100 u101 u102 u103 u104 u105 u106 u107 u108 u109 u110 u111 u112 u113 u114 u115 u116 u117 u118 u119 u120 u121 u122 u123 u124 u125 u126 u127 u128 u129 u130 u131 u132 u133 u134 u135 u136 u137 u138 u139 u140 u141 u142 u143 u144 u145 u146 u147 u148 u149 u150 u151 u152 u153 u154 u155 u156 u157 u158 u159 u160 u161 u162 u163 u164 u165 u166 u167 u168 u169 u170 u171 u172 u173 u174 u175 u176 u177 u178 u179 u180 u181 u182 u183 u184 u185 u186 u187 u188 u189 u190 u191 u192 u193 u194 u195 u196 u197 u198 u199 u200 u201 u202 u203 u204 u205 u206 u207 u208 u209 u210 u211 u212 u213 u214 u215 u216 u217 u218 u219 u220 u221 u222 u223 u224 u225 u226 u227 u228 u229 u230 u231 u232 u233 u234 u235 u236 u237 u238 u239 u240 u241 u242 u243 u244 u245 u246 u247 u248 u249 u250 u251 u252 u253 u254 u255 u256 u257 u258 u259 u260 u261 u262 u263 u264 u265 u266 u267 u268 u269 u270 u271 u272 u273 u274 u275 u276 u277 u278 u279 u280 u281 u282 u283 u284 u285 u286 u287 u288 u289 u290 u291 u292 u293 u294 u295 u296 u297 u298 u299 u300 u301 u302 u303 u304 u305 u306 u307 u308 u309 u310 u311 u312 u313 u314 u315 u316 u317 u318 u319 u320 u321 u322 u323 u324 u325 u326 u327 u328 u329 u330 u331 u332 u333 u334 u335 u336 u337 u338 u339 u340 u341 u342 u343 u344 u345 u346 u347 u348 u349 u350 u351 u352 u353 u354 u355 HP
  go_upto_block 24 with fail
  go_cut [16, 17] from 18 (fun _ _ w' => Post (Bk9 b Ab N cb Ac cc Ae M ce Ad Q cd I J D R) w0 F w')
  case first =>
    rename_i K0 hK0 J1 K1 hJ1 hK1
    refine wp_mono (Q := Exit.then K1 (fun _ _ _ => False)) ?_ (then_false K1 _)
    clear hK0 K0 Q0
    revert w0 w F b i j B R hi hj hB Ab cb Ac cc Ae ce Ad cd N hil M hjl Q hdl HL u4 u5 u6 u7 u8 u9 u10 u11 u12 u13 I J D HI HJ HD w6 u2 u14 u15 u18 u19 u20 u21 u22 u23 u24 u25 u26 u27 u28 u29 u30 u31 u32 u33 u34 u35 u36 u37 u38 u39 u40 u41 u42 u43 u44 u45 u46 u47 u48 u49 u50 u51 u52 u53 u54 u55 u56 u57 u58 u59 u60 u61 u62 u63 u64 u65 u66 u67 u68 u69 u70 u71 u72 u73 u74 u75 u76 u77 u78 u79 u80 u81 u82 u83 u84 u85 u86 u87 u88 u89 u90 u91 u92 u93 u94 u95 u96 u97 u98 u99 u100 u101 u102 u103 u104 u105 u106 u107 u108 u109 u110 u111 u112 u113 u114 u115 u116 u117 u118 u119 u120 u121 u122 u123 u124 u125 u126 u127 u128 u129 u130 u131 u132 u133 u134 u135 u136 u137 u138 u139 u140 u141 u142 u143 u144 u145 u146 u147 u148 u149 u150 u151 u152 u153 u154 u155 u156 u157 u158 u159 u160 u161 u162 u163 u164 u165 u166 u167 u168 u169 u170 u171 u172 u173 u174 u175 u176 u177 u178 u179 u180 u181 u182 u183 u184 u185 u186 u187 u188 u189 u190 u191 u192 u193 u194 u195 u196 u197 u198 u199 u200 u201 u202 u203 u204 u205 u206 u207 u208 u209 u210 u211 u212 u213 u214 u215 u216 u217 u218 u219 u220 u221 u222 u223 u224 u225 u226 u227 u228 u229 u230 u231 u232 u233 u234 u235 u236 u237 u238 u239 u240 u241 u242 u243 u244 u245 u246 u247 u248 u249 u250 u251 u252 u253 u254 u255 u256 u257 u258 u259 u260 u261 u262 u263 u264 u265 u266 u267 u268 u269 u270 u271 u272 u273 u274 u275 u276 u277 u278 u279 u280 u281 u282 u283 u284 u285 u286 u287 u288 u289 u290 u291 u292 u293 u294 u295 u296 u297 u298 u299 u300 u301 u302 u303 u304 u305 u306 u307 u308 u309 u310 u311 u312 u313 u314 u315 u316 u317 u318 u319 u320 u321 u322 u323 u324 u325 u326 u327 u328 u329 u330 u331 u332 u333 u334 u335 u336 u337 u338 u339 u340 u341 u342 u343 u344 u345 u346 u347 u348 u349 u350 u351 u352 u353 u354 u355 HP J1 K1 hJ1 hK1
    exact hP1.out
  case rest =>
  clear HP
  rename World => w7
  have HS := Lib.hid (still_any hcut (by rw [HI.out.len]; omega))
  clear hcut w6
  go_wp2_with fail
  refine HS.out.mono ?_; rintro e w8 ⟨rfl, hp⟩
  have H9 : Hid (Post ((BkN b i j (B + 40)).star R) w0 F w8) := Lib.hid (BkN.shut ⟨by rw [HI.out.len]; exact HL.out.1, by rw [HJ.out.len]; exact HL.out.2.1, by rw [HD.out.len]; exact HL.out.2.2, HI.out.bs, fun x hx => by
    obtain ⟨q, hq⟩ := List.mem_iff_getElem?.1 hx
    exact (HJ.out.al q x hq).1, fun x hx => by
    obtain ⟨q, hq⟩ := List.mem_iff_getElem?.1 hx
    exact (HD.out.al q x hq).1⟩ hp)
  clear hp HS
  go_wp2_with fail
  go_ret
  exact ⟨rfl, H9.out⟩)
end Go.Proofs.YtmcekhgmmocajaaGreatDoor
namespace Go.Proofs.YtmcekhgmmocajaaGreatDoor
open Go Go.RowKit Me

set_option maxRecDepth 100000 in
set_option maxHeartbeats 40000000 in
theorem own_i : own_s6.1 := by
  intro w0 w F b i j B R hi hj hB Ab cb Ac cc Ae ce Ad cd N hil M hjl Q hdl HL u4 u5 u6 u7 u8 u9 u10 u11 u12 u13 I J D HI HJ HD w6 u2 u14 u15 u18 u19 u20 u21 u22 u23 u24 u25 u26 u27 u28 u29 u30 u31 u32 u33 u34 u35 u36 u37 u38 u39 u40 u41 u42 u43 u44 u45 u46 u47 u48 u49 u50 u51 u52 u53 u54 u55 u56 u57 u58 u59 u60 u61 u62 u63 u64 u65 u66 u67 u68 u69 u70 u71 u72 u73 u74 u75 u76 u77 u78 u79 u80 u81 u82 u83 u84 u85 u86 u87 u88 u89 u90 u91 u92 u93 u94 u95 u96 u97 u98 u99 u100 u101 u102 u103 u104 u105 u106 u107 u108 u109 u110 u111 u112 u113 u114 u115 u116 u117 u118 u119 u120 u121 u122 u123 u124 u125 u126 u127 u128 u129 u130 u131 u132 u133 u134 u135 u136 u137 u138 u139 u140 u141 u142 u143 u144 u145 u146 u147 u148 u149 u150 u151 u152 u153 u154 u155 u156 u157 u158 u159 u160 u161 u162 u163 u164 u165 u166 u167 u168 u169 u170 u171 u172 u173 u174 u175 u176 u177 u178 u179 u180 u181 u182 u183 u184 u185 u186 u187 u188 u189 u190 u191 u192 u193 u194 u195 u196 u197 u198 u199 u200 u201 u202 u203 u204 u205 u206 u207 u208 u209 u210 u211 u212 u213 u214 u215 u216 u217 u218 u219 u220 u221 u222 u223 u224 u225 u226 u227 u228 u229 u230 u231 u232 u233 u234 u235 u236 u237 u238 u239 u240 u241 u242 u243 u244 u245 u246 u247 u248 u249 u250 u251 u252 u253 u254 u255 u256 u257 u258 u259 u260 u261 u262 u263 u264 u265 u266 u267 u268 u269 u270 u271 u272 u273 u274 u275 u276 u277 u278 u279 u280 u281 u282 u283 u284 u285 u286 u287 u288 u289 u290 u291 u292 u293 u294 u295 u296 u297 u298 u299 u300 u301 u302 u303 u304 u305 u306 u307 u308 u309 u310 u311 u312 u313 u314 u315 u316 u317 u318 u319 u320 u321 u322 u323 u324 u325 u326 u327 u328 u329 u330 u331 u332 u333 u334 u335 u336 u337 u338 u339 u340 u341 u342 u343 u344 u345 u346 u347 u348 u349 u350 u351 u352 u353 u354 u355 HP J1 K1 hJ1 hK1
  have HZ := Lib.hid (show Post ((BkC b (.slice Ab N cb) (.slice Ac N cc) (.slice Ae M ce) (.slice Ad Q cd)).star ((RgJ 49 54 3 (.slice Ad Q cd) D).star ((RbI (.slice Ab N cb) (.slice Ac N cc) I).star ((RgJ 23 47 5 (.slice Ae M ce) J).star R)))) w0 F w6 from HP.out.ent ((Pc.Ent.refl _).mono (Pc.Ent.at3 _ _ _ _)))
  clear HP
  generalize hZ : (RbI (.slice Ab N cb) (.slice Ac N cc) I).star ((RgJ 23 47 5 (.slice Ae M ce) J).star R) = Z at HZ
  have HZE := Lib.hid hZ
  clear hZ
  go_wp2_with fail
  go_loopw [16, 17] (fun ix _ wr => RelK ((BkC b (.slice Ab N cb) (.slice Ac N cc) (.slice Ae M ce) (.slice Ad Q cd)).star ((RgJ 49 54 3 (.slice Ad Q cd) D).star Z)) w0 F Q ix wr) (fun ix _ _ => Q - (intOf ix).toNat)
  case atStart => exact ⟨0, by omega, rfl, HZ.out⟩
  case round =>
    clear HZ
    obtain ⟨k, hk, rfl, hp⟩ := hrel
    have HP := Lib.hid hp
    obtain ⟨hb, h1⟩ := bk_cellsG hp
    obtain ⟨c0, c1, c2, c3, -, -, -, -⟩ := bcell4 hb
    rcases Nat.lt_or_ge k Q with hlt | hge
    · obtain ⟨x, hx⟩ : ∃ x, D[k]? = some x := ⟨_, List.getElem?_eq_getElem (by rw [HD.out.len]; exact hlt)⟩
      obtain ⟨hxb, hxx⟩ := HD.out.al k x hx
      have HX := Lib.hid hx
      have HXX := Lib.hid hxx
      clear hp hb h1 hx hxx
      go_wp2_with fail
      clear c0 c1 c2 c3
      go_loopw [17] (fun ix wr => RelK ((BkC b (.slice Ab N cb) (.slice Ac N cc) (.slice Ae M ce) (.slice Ad Q cd)).star ((RgJ 49 54 3 (.slice Ad Q cd) D).star Z)) w0 F x.n ix wr) (fun ix _ => x.n - (intOf ix).toNat)
      case atStart => exact ⟨0, by omega, rfl, HP.out⟩
      case round =>
        clear HP
        obtain ⟨q, hq, rfl, hp⟩ := hrel
        have HP := Lib.hid hp
        have hpo := hp.ent (bk_openG HX.out)
        rw [HD.out.len] at hpo
        obtain ⟨hb, h1, r1⟩ := opG_cells hpo
        obtain ⟨c0, c1, c2, c3, -, -, -, -⟩ := bcell4 hb
        obtain ⟨g1, q1, e1, d1, -⟩ := row_cell h1 (i := k) (x := x.v) (by rw [List.getElem?_map, HX.out]; rfl)
        injection e1 with e1 _ e1c
        subst e1
        subst e1c
        rw [HXX.out] at r1
        have HXV : Hid (D[k]? = some x) := HX
        generalize hxv : x.v = xv at *
        generalize hxn : x.n = xn at *
        obtain ⟨Av, cv, rfl⟩ := own_ctor r1
        rcases Nat.lt_or_ge q xn with hlt2 | hge2
        · obtain ⟨gv, qv, e2⟩ : ∃ g c, Value.slice Av xn cv = .slice (some ⟨g, 0, none⟩) xn c := by
            rcases ownsRow_form r1 with ⟨-, h0, -⟩ | ⟨g, c, h0, -⟩
            · omega
            · exact ⟨g, c, h0⟩
          injection e2 with e2 _ e2c
          subst e2
          subst e2c
          have HW := Lib.hid (hp.still (w' := (wr.alloc (.cells #[.int .u8 ((k : Int) % 256), .int .u8 ((k : Int) / 256 % 256)] 5)).drew) (((Mods.refl [] wr).alloc _).drew))
          have hpo' := hpo.still (w' := (wr.alloc (.cells #[.int .u8 ((k : Int) % 256), .int .u8 ((k : Int) / 256 % 256)] 5)).drew) (((Mods.refl [] wr).alloc _).drew)
          obtain ⟨hb', h1', r1'⟩ := opG_cells hpo'
          obtain ⟨-, -, -, c3', -, -, -, -⟩ := bcell4 hb'
          obtain ⟨g1', q1', e1', d1', -⟩ := row_cell h1' (i := k) (x := .slice (some ⟨gv, 0, none⟩) xn cv) (by rw [List.getElem?_map, HX.out, Option.map_some, hxv])
          injection e1' with e1' _ e1c'
          clear e1c'
          injection e1' with e1'
          injection e1' with e1'
          subst e1'
          rw [HXX.out] at r1'
          have a0 := rep_cell (j := 0) (x := .string (mkS k)) r1 rfl hlt2 rfl
          rw [Nat.add_zero] at a0
          have a1 := rep_cell (j := 1) (x := .bool false) r1 rfl hlt2 rfl
          have a2 := rep_cell (j := 2) (x := .bool false) r1 rfl hlt2 rfl
          have b0 := rep_cell (j := 0) (x := .string (mkS k)) r1' rfl hlt2 rfl
          rw [Nat.add_zero] at b0
          have b1 := rep_cell (j := 1) (x := .bool false) r1' rfl hlt2 rfl
          have b2 := rep_cell (j := 2) (x := .bool false) r1' rfl hlt2 rfl
          have s1 : IntKind.u8.wrap (k : Int) = (k : Int) % 256 := IntKind.wrap_u8 _
          have s2 : IntKind.i64.wrap ((k : Int) / 256) = (k : Int) / 256 := IntWalk.i64_in _ (by omega)
          have s3 : IntKind.u8.wrap ((k : Int) / 256) = (k : Int) / 256 % 256 := IntKind.wrap_u8 _
          have hcv := conv_mk wr k
          clear hp hpo hb h1 r1 HX HXX hb' h1' r1' hpo' HXV c0 c1 c2
          go_upto_region 56 with fail
          go_cut [353] from 335 to 353 (fun v w' => v = .bool false ∧ Post ((BkC b (.slice Ab N cb) (.slice Ac N cc) (.slice Ae M ce) (.slice (some ⟨g1, 0, none⟩) Q cd)).star ((RgJ 49 54 3 (.slice (some ⟨g1, 0, none⟩) Q cd) D).star Z)) w0 F w')
          case first =>
            go_region_law (fail)
            all_goals
              first
                | (go_meet; case rel => exact ⟨rfl, HW.out⟩)
                | (go_wp2_with fail; go_meet; case rel => exact ⟨rfl, HW.out⟩)
          case rest =>
            obtain ⟨rfl, hp⟩ := hcut
            clear c3 d1 c3' d1' a0 a1 a2 b0 b1 b2 hcv HW
            have HR : Hid (RelK ((BkC b (.slice Ab N cb) (.slice Ac N cc) (.slice Ae M ce) (.slice (some ⟨g1, 0, none⟩) Q cd)).star ((RgJ 49 54 3 (.slice (some ⟨g1, 0, none⟩) Q cd) D).star Z)) w0 F xn (.int .i64 ((q : Int) + 1)) wc) := Lib.hid ⟨q + 1, by omega, rfl, hp⟩
            clear hp
            go_wp2_with fail
            exact ⟨HR.out, by simp only [intOf]; omega⟩
        · obtain rfl : q = xn := by omega
          have HR : Hid (RelK ((BkC b (.slice Ab N cb) (.slice Ac N cc) (.slice Ae M ce) (.slice (some ⟨g1, 0, none⟩) Q cd)).star ((RgJ 49 54 3 (.slice (some ⟨g1, 0, none⟩) Q cd) D).star Z)) w0 F Q (.int .i64 ((k : Int) + 1)) wr) := Lib.hid ⟨k + 1, by omega, rfl, hp⟩
          clear hp hpo hb h1 r1 HX HXX
          go_wp2_with fail
          exact ⟨HR.out, by simp only [intOf]; omega⟩
    · obtain rfl : k = Q := by omega
      have HR : Hid (Post (Bk9 b Ab N cb Ac cc Ae M ce Ad k cd I J D R) w0 F wr) := Lib.hid (by rw [← HZE.out] at hp; exact hp.ent ((Pc.Ent.refl _).mono (Pc.perm [RgJ 49 54 3 (.slice Ad k cd) D, RbI (.slice Ab N cb) (.slice Ac N cc) I, RgJ 23 47 5 (.slice Ae M ce) J, R] [1, 2, 0, 3] (n := 4) (by decide))))
      clear hp hb h1
      go_wp2_with fail
      go_meet
      case rel => exact HR.out
end Go.Proofs.YtmcekhgmmocajaaGreatDoor
