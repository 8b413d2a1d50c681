/- The Book's own: entries grow. -/
import Derived.Test.YtmcekhgmmocajaaGreatDoorO7
import Derived.Deep.RegionLaw
namespace Go.Proofs.YtmcekhgmmocajaaGreatDoor
open Go Go.RowKit Me

theorem src_drewE (w : World) (k : Nat) : Src Tryz.prog 5 23 (.slice (some ⟨w.heap.size, 0, none⟩) 1 1) 1 (cE k) ((w.alloc (.cells (cE k).toArray 47)).drew) :=
  Src.ofSlice _ Tryz.underlying23 _ _ _ _ rfl (cells_new w (cE k) 47) (by
    intro u hu
    simp only [cE, List.mem_cons, List.not_mem_nil, or_false] at hu
    rcases hu with h | h | h | h | h <;> (subst h; rfl))
set_option maxRecDepth 100000 in
set_option maxHeartbeats 40000000 in
theorem own_l : own_g.P2 := by
  intro w0 w F b i j B R hi hj hB Ab cb Ac cc Ae ce Ad cd N hil M hjl Q hdl HL u4 u5 u6 u7 u8 u9 u18 u19 u20 u21 u22 u23 u24 u25 u26 u27 u28 u29 u30 u31 u32 u33 u34 u35 u36 u37 u38 u39 u40 u41 u42 u43 u44 u45 u46 u47 u48 u49 u50 u51 u52 u53 u54 u55 u56 u57 u58 u59 u60 u61 u62 u63 u64 u65 u66 u67 u68 u69 u70 u71 u72 u73 u74 u75 u76 u77 u78 u79 u80 u81 u82 u83 u84 u85 u86 u87 u88 u89 u90 u91 u92 u93 u94 u95 u96 u97 u98 u99 u100 u101 u102 u103 u104 u105 u106 u107 u108 u109 u110 u111 u112 u113 u114 u115 u116 u117 u118 u119 u120 u121 u122 u123 u124 u125 u126 u127 u128 u129 u130 u131 u132 u133 u134 u135 u136 u137 u250 u251 u252 u253 u254 u255 u256 u257 u258 u259 u260 u261 u262 u263 u264 u265 u266 u267 u268 u269 u270 u271 u272 u273 u274 u275 u276 u277 u278 u279 u280 u281 u282 u283 u284 u285 u286 u287 u288 u289 u290 u291 u292 u293 u294 u295 u296 u297 u298 u299 u300 u301 u302 u303 u304 u305 u306 u307 u308 u309 u310 u311 u312 u313 u314 u315 u316 u317 u318 u319 u320 u321 u322 u323 u324 u325 u326 u327 u328 u329 u330 u331 u332 u333 u334 u335 u336 u337 u338 u339 u340 u341 u342 u343 u344 u345 u346 u347 u348 u349 u350 u351 u352 u353 u354 u355 wr u12 u13 u138 u139 u140 u141 u191 u192 u193 u194 u195 u196 u197 u198 u199 u200 u201 u202 u203 u204 u205 u206 u207 u208 u209 u210 u211 u212 u213 u214 u215 u216 u217 u218 u219 u220 u221 u222 u223 u224 u225 u226 u227 u228 u229 u230 u231 u232 u233 u234 u235 u236 u237 u238 u239 u240 u241 u242 u243 u244 u245 u246 u247 u248 u249 t J D ht hlt HJ HD w5 u11 u142 u143 u144 u145 u146 u147 u148 u149 u150 u151 u152 u153 u154 u155 u156 u157 u158 u159 u160 u161 u162 u163 u164 u165 u166 u167 u168 u169 u170 u171 u172 u173 u174 u175 u176 u177 u178 u179 u180 u181 u182 u183 u184 u185 u186 u187 u188 u189 u190 I HI HP J3 K3 hJ3 hK3
  have HZ := Lib.hid (show Post ((BkC b (.slice Ab N cb) (.slice Ac N cc) (.slice Ae M ce) (.slice Ad Q cd)).star ((RgJ 23 47 5 (.slice Ae M ce) J).star ((RbI (.slice Ab N cb) (.slice Ac N cc) I).star ((RgJ 49 54 3 (.slice Ad Q cd) D).star R)))) w0 F w5 from HP.out.ent ((Pc.Ent.refl _).mono (Pc.Ent.swap _ _ _)))
  clear HP
  generalize hZ : (RbI (.slice Ab N cb) (.slice Ac N cc) I).star ((RgJ 49 54 3 (.slice Ad Q cd) D).star R) = Z at HZ
  have HZE := Lib.hid hZ
  clear hZ
  go_wp2_with fail
  go_loopw [12] (fun ix wr => RelT (BkC b (.slice Ab N cb) (.slice Ac N cc) (.slice Ae M ce) (.slice Ad Q cd)) 23 47 5 (.slice Ae M ce) Z cE w0 F M (B + t) ix wr) (fun ix _ => M - (intOf ix).toNat)
  case atStart => exact ⟨0, J, by omega, rfl, RgT.start HJ.out, HZ.out⟩
  case round =>
    clear HJ HZ J
    obtain ⟨k, J, hk, rfl, hj2, hp⟩ := hrel
    have HJ := Lib.hid hj2
    obtain ⟨hb, h1⟩ := bk_cellsG hp
    obtain ⟨-, -, c2, -, -, -, f2, -⟩ := bcell4 hb
    rcases Nat.lt_or_ge k M with hlt3 | hge3
    · obtain ⟨y, hy⟩ : ∃ x, J[k]? = some x := ⟨_, List.getElem?_eq_getElem (by rw [hj2.len]; exact hlt3)⟩
      have hq := hp.ent (bk_openG hy)
      rw [hj2.len] at hq h1
      obtain ⟨-, -, r1⟩ := opG_cells hq
      obtain ⟨g1, q1, e1, d1, f1⟩ := row_cell h1 (i := k) (x := y.v) (by rw [List.getElem?_map, hy]; rfl)
      injection e1 with e1 _ e1c
      subst e1
      subst e1c
      obtain ⟨hyb, hyx⟩ := hj2.al k y hy
      rw [if_neg (by omega)] at hyb
      have HY := Lib.hid hy
      have HYX := Lib.hid hyx
      have HQd := Lib.hid (hq.still ((Mods.refl [] wr).drew))
      obtain ⟨yv, yn, yxs⟩ := y
      simp only at r1 d1 HQd hyb HYX
      obtain ⟨Av, cv, rfl⟩ := own_ctor r1
      have HL := Lib.hid (fun o : Obj => ownsRow_mods (w := wr) r1 ((Mods.refl [] wr).alloc o).drew (by simp))
      obtain ⟨i0, hi0, hz0, hz1, hz2⟩ := info_parts info38z
      clear hp hb h1 hy hyx hj2 hq r1
      go_upto_block 17 with fail
      go_cut [217] from 200 to 217 (fun _ w' => ∃ J', RgT cE M (B + t) (k + 1) J' ∧ Post ((BkC b (.slice Ab N cb) (.slice Ac N cc) (.slice (some ⟨g1, 0, none⟩) M ce) (.slice Ad Q cd)).star ((RgJ 23 47 5 (.slice (some ⟨g1, 0, none⟩) M ce) J').star Z)) w0 F w')
      case first =>
        have c0w : wr.cell? ⟨b, 2, none⟩ = some (.slice (some ⟨g1, 0, none⟩) M ce) := c2
        have c0a : (wr.alloc (.cells #[.string ⟨#[]⟩, .int .u32 0, .int .u32 (k : Int), .string ⟨#[]⟩, .slice none 0 0] 47)).cell? ⟨b, 2, none⟩ = some (.slice (some ⟨g1, 0, none⟩) M ce) := by
          rw [((Mods.refl [] wr).alloc _).cell (World.block_lt_of_cell? _ _ c0w) (by simp)]
          exact c0w
        have d1w := d1
        have d1a : (wr.alloc (.cells #[.string ⟨#[]⟩, .int .u32 0, .int .u32 (k : Int), .string ⟨#[]⟩, .slice none 0 0] 47)).cell? ⟨g1, k, none⟩ = some (.slice Av yn cv) := by
          rw [((Mods.refl [] wr).alloc _).cell (World.block_lt_of_cell? _ _ d1w) (by simp)]
          exact d1w
        have s1 : IntKind.u32.wrap (k : Int) = (k : Int) := by rw [IntKind.wrap_u32]; omega
        clear c0w d1w
        go_upto_region 37 with fail
        go_region_law (first | (refine step_app rfl _ _ 23 23 rfl 0 47 i0 (.agg #[.string ⟨#[]⟩, .int .u32 0, .int .u32 0, .string ⟨#[]⟩, .slice none 0 0]) 5 64 Tryz.underlying23 hi0 hz0 hz1 hz2 rfl (.slice Av yn cv) yn yxs rfl (HL.out _) (.slice (some ⟨wr.heap.size, 0, none⟩) 1 1) 1 (cE k) rfl (src_drewE _ _) (by unfold maxLen; omega) (by omega) (Nat.zero_le _) ?_; intro v2 w4 hown hgrow hat; have hp5 := HQd.out.step (row_turn hown (grown_drew hgrow) (by simpa using hat)); obtain ⟨A2, c2', rfl⟩ := own_ctor hown; have hp7 := grow_g (k := k) (x := .slice A2 (yn + 1) c2') hp5; have HP7 := Lib.hid hp7; obtain ⟨hb5, hr5⟩ := grow_c hp5; obtain ⟨-, -, c0', -, -, -, -, -⟩ := bcell4 hb5; obtain ⟨⟨x5, d1'⟩, f1'⟩ := row_cell5 hr5 hlt3; clear hown hgrow hat hp5 hb5 hr5 hp7))
        all_goals
          have HR : Hid (∃ J', RgT cE M (B + t) (k + 1) J' ∧ Post ((BkC b (.slice Ab N cb) (.slice Ac N cc) (.slice (some ⟨g1, 0, none⟩) M ce) (.slice Ad Q cd)).star ((RgJ 23 47 5 (.slice (some ⟨g1, 0, none⟩) M ce) J').star Z)) w0 F _) := Lib.hid ⟨J.set k ⟨.slice A2 (yn + 1) c2', yn + 1, yxs ++ cE k⟩, HJ.out.set (by show yn + 1 ≤ _; omega) (by show yxs ++ cE k = reps (cE k) (yn + 1); rw [HYX.out]; rfl), HP7.out.ent (by
            have h := bk_shutG (C := BkC b (.slice Ab N cb) (.slice Ac N cc) (.slice (some ⟨g1, 0, none⟩) M ce) (.slice Ad Q cd)) (T := 23) (e := 47) (size := 5) (vs := .slice (some ⟨g1, 0, none⟩) M ce) (Z := Z) (x := ⟨.slice A2 (yn + 1) c2', yn + 1, yxs ++ cE k⟩) (J := J) (i := k) (by rw [HJ.out.len]; exact hlt3)
            rw [HJ.out.len] at h
            exact h)⟩
          first
            | (go_meet; case rel => exact HR.out)
            | (go_wp2_with fail; go_meet; case rel => exact HR.out)
      case rest =>
        clear c2 f2 d1 f1 HL HQd
        obtain ⟨J', hj2, hp⟩ := hcut
        have HR : Hid (RelT (BkC b (.slice Ab N cb) (.slice Ac N cc) (.slice (some ⟨g1, 0, none⟩) M ce) (.slice Ad Q cd)) 23 47 5 (.slice (some ⟨g1, 0, none⟩) M ce) Z cE w0 F M (B + t) (.int .i64 ((k : Int) + 1)) wc) := Lib.hid ⟨k + 1, J', by omega, rfl, hj2, hp⟩
        clear hj2 hp
        go_wp2_with fail
        exact ⟨HR.out, by simp only [intOf]; omega⟩
    · obtain rfl : k = M := by omega
      have HR : Hid (∃ J, RgM cE k (B + (t + 1)) J ∧ Post (Bk9 b Ab N cb Ac cc Ae k ce Ad Q cd I J D R) w0 F wr) := Lib.hid ⟨J, hj2.done, by rw [← HZE.out] at hp; exact hp.ent ((Pc.Ent.refl _).mono (Pc.Ent.swap _ _ _))⟩
      clear hp hb h1 hj2
      go_wp2_with fail
      go_meet
      case rel => exact HR.out
end Go.Proofs.YtmcekhgmmocajaaGreatDoor
