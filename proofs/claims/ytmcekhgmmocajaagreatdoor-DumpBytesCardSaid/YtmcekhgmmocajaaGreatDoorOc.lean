/- The Book's own: stage 3 (printed by wip/bin/genown2.py). | The Book's own: bytes are marked. -/
import Derived.Test.YtmcekhgmmocajaaGreatDoorOb
import Derived.Deep.CutBlock
import Derived.Deep.CutRange
import Derived.Test.YtmcekhgmmocajaaGreatDoorOa
namespace Go.Proofs.YtmcekhgmmocajaaGreatDoor
open Go Go.RowKit Me

set_option maxRecDepth 100000 in
set_option maxHeartbeats 40000000 in
noncomputable def own_s3 : Two (own_s2.P2) := ⟨_, _, by
  intro hP1 hP2
  intro w0 w F b i j B I R hi hj hB Ab cb Ac cc Ae ce Ad cd N HI hil M hjl Q hdl HL Q0 u4 u5 J HJ w3 u6 u7 u18 u19 u20 u21 u22 u23 u24 u25 u26 u27 u28 u29 u30 u31 u32 u33 u34 u35 u36 u37 u38 u39 u40 u41 u42 u43 u44 u45 u46 u47 u48 u49 u50 u51 u52 u53 u54 u55 u56 u57 u58 u59 u60 u61 u62 u63 u64 u65 u66 u67 u68 u69 u70 u71 u72 u73 u74 u75 u76 u77 u78 u79 u80 u81 u82 u83 u84 u85 u86 u87 u88 u89 u90 u91 u92 u93 u94 u95 u96 u97 u98 u99 u100 u101 u102 u103 u104 u105 u106 u107 u108 u109 u110 u111 u112 u113 u114 u115 u116 u117 u118 u119 u120 u121 u122 u123 u124 u125 u126 u127 u128 u129 u130 u131 u132 u133 u134 u135 u136 u137 u138 u139 u140 u141 u142 u143 u144 u145 u146 u147 u148 u149 u150 u151 u152 u153 u154 u155 u156 u157 u158 u159 u160 u161 u162 u163 u164 u165 u166 u167 u168 u169 u170 u171 u172 u173 u174 u175 u176 u177 u178 u179 u180 u181 u182 u183 u184 u185 u186 u187 u188 u189 u190 u191 u192 u193 u194 u195 u196 u197 u198 u199 u200 u201 u202 u203 u204 u205 u206 u207 u208 u209 u210 u211 u212 u213 u214 u215 u216 u217 u218 u219 u220 u221 u222 u223 u224 u225 u226 u227 u228 u229 u230 u231 u232 u233 u234 u235 u236 u237 u238 u239 u240 u241 u242 u243 u244 u245 u246 u247 u248 u249 u250 u251 u252 u253 u254 u255 u256 u257 u258 u259 u260 u261 u262 u263 u264 u265 u266 u267 u268 u269 u270 u271 u272 u273 u274 u275 u276 u277 u278 u279 u280 u281 u282 u283 u284 u285 u286 u287 u288 u289 u290 u291 u292 u293 u294 u295 u296 u297 u298 u299 u300 u301 u302 u303 u304 u305 u306 u307 u308 u309 u310 u311 u312 u313 u314 u315 u316 u317 u318 u319 u320 u321 u322 u323 u324 u325 u326 u327 u328 u329 u330 u331 u332 u333 u334 u335 u336 u337 u338 u339 u340 u341 u342 u343 u344 u345 u346 u347 u348 u349 u350 u351 u352 u353 u354 u355 D HD HP
  go_upto_block 8 with fail
  go_cut [8, 9] from 18 (fun _ _ w' => ∃ I, IOk N B I ∧ Post (Bk9 b Ab N cb Ac cc Ae M ce Ad Q cd I J D R) w0 F w')
  case first =>
    rename_i K0 hK0 J1 K1 hJ1 hK1
    refine wp_mono (Q := Exit.then K1 (fun _ _ _ => False)) ?_ (then_false K1 _)
    clear hK0 K0 Q0
    revert w0 w F b i j B I R hi hj hB Ab cb Ac cc Ae ce Ad cd N HI hil M hjl Q hdl HL u4 u5 J HJ w3 u6 u7 u18 u19 u20 u21 u22 u23 u24 u25 u26 u27 u28 u29 u30 u31 u32 u33 u34 u35 u36 u37 u38 u39 u40 u41 u42 u43 u44 u45 u46 u47 u48 u49 u50 u51 u52 u53 u54 u55 u56 u57 u58 u59 u60 u61 u62 u63 u64 u65 u66 u67 u68 u69 u70 u71 u72 u73 u74 u75 u76 u77 u78 u79 u80 u81 u82 u83 u84 u85 u86 u87 u88 u89 u90 u91 u92 u93 u94 u95 u96 u97 u98 u99 u100 u101 u102 u103 u104 u105 u106 u107 u108 u109 u110 u111 u112 u113 u114 u115 u116 u117 u118 u119 u120 u121 u122 u123 u124 u125 u126 u127 u128 u129 u130 u131 u132 u133 u134 u135 u136 u137 u138 u139 u140 u141 u142 u143 u144 u145 u146 u147 u148 u149 u150 u151 u152 u153 u154 u155 u156 u157 u158 u159 u160 u161 u162 u163 u164 u165 u166 u167 u168 u169 u170 u171 u172 u173 u174 u175 u176 u177 u178 u179 u180 u181 u182 u183 u184 u185 u186 u187 u188 u189 u190 u191 u192 u193 u194 u195 u196 u197 u198 u199 u200 u201 u202 u203 u204 u205 u206 u207 u208 u209 u210 u211 u212 u213 u214 u215 u216 u217 u218 u219 u220 u221 u222 u223 u224 u225 u226 u227 u228 u229 u230 u231 u232 u233 u234 u235 u236 u237 u238 u239 u240 u241 u242 u243 u244 u245 u246 u247 u248 u249 u250 u251 u252 u253 u254 u255 u256 u257 u258 u259 u260 u261 u262 u263 u264 u265 u266 u267 u268 u269 u270 u271 u272 u273 u274 u275 u276 u277 u278 u279 u280 u281 u282 u283 u284 u285 u286 u287 u288 u289 u290 u291 u292 u293 u294 u295 u296 u297 u298 u299 u300 u301 u302 u303 u304 u305 u306 u307 u308 u309 u310 u311 u312 u313 u314 u315 u316 u317 u318 u319 u320 u321 u322 u323 u324 u325 u326 u327 u328 u329 u330 u331 u332 u333 u334 u335 u336 u337 u338 u339 u340 u341 u342 u343 u344 u345 u346 u347 u348 u349 u350 u351 u352 u353 u354 u355 D HD HP J1 K1 hJ1 hK1
    exact hP1.out
  case rest =>
  clear HP HI I
  obtain ⟨I, hi1, hp⟩ := hcut
  rename World => w4
  have HI := Lib.hid hi1
  have HP := Lib.hid hp
  clear hi1 hp w3
  rename_i z18 z19 z20 z21 z22 z23 z24 z25 z26 z27 z28 z29 z30 z31 z32 z33 z34 z35 z36 z37 z38 z39 z40 z41 z42 z43 z44 z45 z46 z47 z48 z49 z50 z51 z52 z53 z54 z55 z56 z57 z58 z59 z60 z61 z62 z63 z64 z65 z66 z67 z68 z69 z70 z71 z72 z73 z74 z75 z76 z77 z78 z79 z80 z81 z82 z83 z84 z85 z86 z87 z88 z89 z90 z91 z92 z93 z94 z95 z96 z97 z98 z99 z100 z101 z102 z103 z104 z105 z106 z107 z108 z109 z110 z111 z112 z113 z114 z115 z116 z117 z118 z119 z120 z121 z122 z123 z124 z125 z126 z127 z128 z129 z130 z131 z132 z133 z134 z135 z136 z137 z138 z139 z140 z141 z142 z143 z144 z145 z146 z147 z148 z149 z150 z151 z152 z153 z154 z155 z156 z157 z158 z159 z160 z161 z162 z163 z164 z165 z166 z167 z168 z169 z170 z171 z172 z173 z174 z175 z176 z177 z178 z179 z180 z181 z182 z183 z184 z185 z186 z187 z188 z189 z190 z191 z192 z193 z194 z195 z196 z197 z198 z199 z200 z201 z202 z203 z204 z205 z206 z207 z208 z209 z210 z211 z212 z213 z214 z215 z216 z217 z218 z219 z220 z221 z222 z223 z224 z225 z226 z227 z228 z229 z230 z231 z232 z233 z234 z235 z236 z237 z238 z239 z240 z241 z242 z243 z244 z245 z246 z247 z248 z249 z250 z251 z252 z253 z254 z255 z256 z257 z258 z259 z260 z261 z262 z263 z264 z265 z266 z267 z268 z269 z270 z271 z272 z273 z274 z275 z276 z277 z278 z279 z280 z281 z282 z283 z284 z285 z286 z287 z288 z289 z290 z291 z292 z293 z294 z295 z296 z297 z298 z299 z300 z301 z302 z303 z304 z305 z306 z307 z308 z309 z310 z311 z312 z313 z314 z315 z316 z317 z318 z319 z320 z321 z322 z323 z324 z325 z326 z327 z328 z329 z330 z331 z332 z333 z334 z335 z336 z337 z338 z339 z340 z341 z342 z343 z344 z345 z346 z347 z348 z349 z350 z351 z352 z353 z354 z355 K0 hK0
  refine hK0 _ _ ?_
  clear hK0 K0 z18 z19 z20 z21 z22 z23 z24 z25 z26 z27 z28 z29 z30 z31 z32 z33 z34 z35 z36 z37 z38 z39 z40 z41 z42 z43 z44 z45 z46 z47 z48 z49 z50 z51 z52 z53 z54 z55 z56 z57 z58 z59 z60 z61 z62 z63 z64 z65 z66 z67 z68 z69 z70 z71 z72 z73 z74 z75 z76 z77 z78 z79 z80 z81 z82 z83 z84 z85 z86 z87 z88 z89 z90 z91 z92 z93 z94 z95 z96 z97 z98 z99 z100 z101 z102 z103 z104 z105 z106 z107 z108 z109 z110 z111 z112 z113 z114 z115 z116 z117 z118 z119 z120 z121 z122 z123 z124 z125 z126 z127 z128 z129 z130 z131 z132 z133 z134 z135 z136 z137 z138 z139 z140 z141 z142 z143 z144 z145 z146 z147 z148 z149 z150 z151 z152 z153 z154 z155 z156 z157 z158 z159 z160 z161 z162 z163 z164 z165 z166 z167 z168 z169 z170 z171 z172 z173 z174 z175 z176 z177 z178 z179 z180 z181 z182 z183 z184 z185 z186 z187 z188 z189 z190 z191 z192 z193 z194 z195 z196 z197 z198 z199 z200 z201 z202 z203 z204 z205 z206 z207 z208 z209 z210 z211 z212 z213 z214 z215 z216 z217 z218 z219 z220 z221 z222 z223 z224 z225 z226 z227 z228 z229 z230 z231 z232 z233 z234 z235 z236 z237 z238 z239 z240 z241 z242 z243 z244 z245 z246 z247 z248 z249 z250 z251 z252 z253 z254 z255 z256 z257 z258 z259 z260 z261 z262 z263 z264 z265 z266 z267 z268 z269 z270 z271 z272 z273 z274 z275 z276 z277 z278 z279 z280 z281 z282 z283 z284 z285 z286 z287 z288 z289 z290 z291 z292 z293 z294 z295 z296 z297 z298 z299 z300 z301 z302 z303 z304 z305 z306 z307 z308 z309 z310 z311 z312 z313 z314 z315 z316 z317 z318 z319 z320 z321 z322 z323 z324 z325 z326 z327 z328 z329 z330 z331 z332 z333 z334 z335 z336 z337 z338 z339 z340 z341 z342 z343 z344 z345 z346 z347 z348 z349 z350 z351 z352 z353 z354 z355
  revert w0 w F b i j B R hi hj hB Ab cb Ac cc Ae ce Ad cd N hil M hjl Q hdl HL Q0 u4 u5 J HJ u6 u7 D HD w4 u8 u9 u18 u19 u20 u21 u22 u23 u24 u25 u26 u27 u28 u29 u30 u31 u32 u33 u34 u35 u36 u37 u38 u39 u40 u41 u42 u43 u44 u45 u46 u47 u48 u49 u50 u51 u52 u53 u54 u55 u56 u57 u58 u59 u60 u61 u62 u63 u64 u65 u66 u67 u68 u69 u70 u71 u72 u73 u74 u75 u76 u77 u78 u79 u80 u81 u82 u83 u84 u85 u86 u87 u88 u89 u90 u91 u92 u93 u94 u95 u96 u97 u98 u99 u100 u101 u102 u103 u104 u105 u106 u107 u108 u109 u110 u111 u112 u113 u114 u115 u116 u117 u118 u119 u120 u121 u122 u123 u124 u125 u126 u127 u128 u129 u130 u131 u132 u133 u134 u135 u136 u137 u138 u139 u140 u141 u142 u143 u144 u145 u146 u147 u148 u149 u150 u151 u152 u153 u154 u155 u156 u157 u158 u159 u160 u161 u162 u163 u164 u165 u166 u167 u168 u169 u170 u171 u172 u173 u174 u175 u176 u177 u178 u179 u180 u181 u182 u183 u184 u185 u186 u187 u188 u189 u190 u191 u192 u193 u194 u195 u196 u197 u198 u199 u200 u201 u202 u203 u204 u205 u206 u207 u208 u209 u210 u211 u212 u213 u214 u215 u216 u217 u218 u219 u220 u221 u222 u223 u224 u225 u226 u227 u228 u229 u230 u231 u232 u233 u234 u235 u236 u237 u238 u239 u240 u241 u242 u243 u244 u245 u246 u247 u248 u249 u250 u251 u252 u253 u254 u255 u256 u257 u258 u259 u260 u261 u262 u263 u264 u265 u266 u267 u268 u269 u270 u271 u272 u273 u274 u275 u276 u277 u278 u279 u280 u281 u282 u283 u284 u285 u286 u287 u288 u289 u290 u291 u292 u293 u294 u295 u296 u297 u298 u299 u300 u301 u302 u303 u304 u305 u306 u307 u308 u309 u310 u311 u312 u313 u314 u315 u316 u317 u318 u319 u320 u321 u322 u323 u324 u325 u326 u327 u328 u329 u330 u331 u332 u333 u334 u335 u336 u337 u338 u339 u340 u341 u342 u343 u344 u345 u346 u347 u348 u349 u350 u351 u352 u353 u354 u355 I HI HP
  exact hP2.out⟩
end Go.Proofs.YtmcekhgmmocajaaGreatDoor
namespace Go.Proofs.YtmcekhgmmocajaaGreatDoor
open Go Go.RowKit Me

def RelMk (C Z : Pc) (vb vc : Value) (w0 : World) (F : List Nat) (N B : Nat) (ix : Value) (wr : World) : Prop :=
  ∃ (k : Nat) (I : List It), k ≤ N ∧ ix = .int .i64 (k : Int) ∧ IOk N B I ∧ Post (C.star ((RbI vb vc I).star Z)) w0 F wr
def RelMk2 (C Z : Pc) (vb vc : Value) (w0 : World) (F : List Nat) (N B k m : Nat) (ix : Value) (wr : World) : Prop :=
  ∃ (j : Nat) (I : List It) (x : It), j ≤ m ∧ ix = .int .i64 (j : Int) ∧ IOk N B I ∧ I[k]? = some x ∧ x.bs.length = m ∧ Post (C.star ((RbI vb vc I).star Z)) w0 F wr
theorem row_bset {v : Value} {l : List UInt8} {j : Nat} {y : UInt8} {r : Pc} {w0 w : World} {F : List Nat} (h : Post ((Pc.row 5 1 v l.length ((l.map byteV).set j (byteV y))).star r) w0 F w) : Post ((rowOf v (l.set j y)).star r) w0 F w := by
  unfold rowOf
  rw [List.length_set, List.map_set]
  exact h
theorem bk_mark {b : Nat} {vb vc ve vd v u : Value} {I : List It} {Z : Pc} {l l' : List UInt8} {k : Nat} {w0 w : World} {F : List Nat} (hx : I[k]? = some ⟨v, u, l⟩)
    (h : Post (OpB b vb vc ve vd v u l' l' (items (I.eraseIdx k)) (I.map It.v) (I.map It.u) I.length Z) w0 F w) : Post ((BkC b vb vc ve vd).star ((RbI vb vc (I.set k ⟨v, u, l'⟩)).star Z)) w0 F w := by
  have e1 : (I.map It.v).set k v = I.map It.v := set_self (by rw [List.getElem?_map, hx]; rfl)
  have e2 : (I.map It.u).set k u = I.map It.u := set_self (by rw [List.getElem?_map, hx]; rfl)
  have h2 := bk_shutB (b := b) (vb := vb) (vc := vc) (ve := ve) (vd := vd) (Z := Z) (x := ⟨v, u, l'⟩) (List.getElem?_eq_some_iff.1 hx).1
  simp only at h2
  rw [e1, e2] at h2
  exact h.ent h2
set_option maxRecDepth 100000 in
set_option maxHeartbeats 40000000 in
theorem own_d : own_s3.P1 := by
  intro w0 w F b i j B I R hi hj hB Ab cb Ac cc Ae ce Ad cd N HI hil M hjl Q hdl HL u4 u5 J HJ w3 u6 u7 u18 u19 u20 u21 u22 u23 u24 u25 u26 u27 u28 u29 u30 u31 u32 u33 u34 u35 u36 u37 u38 u39 u40 u41 u42 u43 u44 u45 u46 u47 u48 u49 u50 u51 u52 u53 u54 u55 u56 u57 u58 u59 u60 u61 u62 u63 u64 u65 u66 u67 u68 u69 u70 u71 u72 u73 u74 u75 u76 u77 u78 u79 u80 u81 u82 u83 u84 u85 u86 u87 u88 u89 u90 u91 u92 u93 u94 u95 u96 u97 u98 u99 u100 u101 u102 u103 u104 u105 u106 u107 u108 u109 u110 u111 u112 u113 u114 u115 u116 u117 u118 u119 u120 u121 u122 u123 u124 u125 u126 u127 u128 u129 u130 u131 u132 u133 u134 u135 u136 u137 u138 u139 u140 u141 u142 u143 u144 u145 u146 u147 u148 u149 u150 u151 u152 u153 u154 u155 u156 u157 u158 u159 u160 u161 u162 u163 u164 u165 u166 u167 u168 u169 u170 u171 u172 u173 u174 u175 u176 u177 u178 u179 u180 u181 u182 u183 u184 u185 u186 u187 u188 u189 u190 u191 u192 u193 u194 u195 u196 u197 u198 u199 u200 u201 u202 u203 u204 u205 u206 u207 u208 u209 u210 u211 u212 u213 u214 u215 u216 u217 u218 u219 u220 u221 u222 u223 u224 u225 u226 u227 u228 u229 u230 u231 u232 u233 u234 u235 u236 u237 u238 u239 u240 u241 u242 u243 u244 u245 u246 u247 u248 u249 u250 u251 u252 u253 u254 u255 u256 u257 u258 u259 u260 u261 u262 u263 u264 u265 u266 u267 u268 u269 u270 u271 u272 u273 u274 u275 u276 u277 u278 u279 u280 u281 u282 u283 u284 u285 u286 u287 u288 u289 u290 u291 u292 u293 u294 u295 u296 u297 u298 u299 u300 u301 u302 u303 u304 u305 u306 u307 u308 u309 u310 u311 u312 u313 u314 u315 u316 u317 u318 u319 u320 u321 u322 u323 u324 u325 u326 u327 u328 u329 u330 u331 u332 u333 u334 u335 u336 u337 u338 u339 u340 u341 u342 u343 u344 u345 u346 u347 u348 u349 u350 u351 u352 u353 u354 u355 D HD HP J1 K1 hJ1 hK1
  have HZ := Lib.hid (show Post ((BkC b (.slice Ab N cb) (.slice Ac N cc) (.slice Ae M ce) (.slice Ad Q cd)).star ((RbI (.slice Ab N cb) (.slice Ac N cc) I).star ((RgJ 23 47 5 (.slice Ae M ce) J).star ((RgJ 49 54 3 (.slice Ad Q cd) D).star R)))) w0 F w3 from HP.out)
  clear HP
  generalize hZ : (RgJ 23 47 5 (.slice Ae M ce) J).star ((RgJ 49 54 3 (.slice Ad Q cd) D).star R) = Z at HZ
  have HZE := Lib.hid hZ
  clear hZ
  go_wp2_with fail
  go_loopw [8, 9] (fun ix _ wr => RelMk (BkC b (.slice Ab N cb) (.slice Ac N cc) (.slice Ae M ce) (.slice Ad Q cd)) Z (.slice Ab N cb) (.slice Ac N cc) w0 F N B ix wr) (fun ix _ _ => N - (intOf ix).toNat)
  case atStart => exact ⟨0, I, by omega, rfl, HI.out, HZ.out⟩
  case round =>
    clear HZ HI I
    obtain ⟨k, I, hk, rfl, hi2, hp⟩ := hrel
    have HP := Lib.hid hp
    have HI := Lib.hid hi2
    obtain ⟨hb, h1, h2⟩ := bk_cellsB hp
    obtain ⟨c0, c1, c2, c3, -, -, -, -⟩ := bcell4 hb
    rcases Nat.lt_or_ge k N with hlt | hge
    · obtain ⟨x, hx⟩ : ∃ x, I[k]? = some x := ⟨_, List.getElem?_eq_getElem (by rw [hi2.len]; exact hlt)⟩
      have HX := Lib.hid hx
      have hxb := hi2.bs x (List.mem_of_getElem? hx)
      clear hp hb h1 h2 hx hi2
      go_wp2_with fail
      clear c0 c1 c2 c3
      go_loopw [9] (fun ix wr => RelMk2 (BkC b (.slice Ab N cb) (.slice Ac N cc) (.slice Ae M ce) (.slice Ad Q cd)) Z (.slice Ab N cb) (.slice Ac N cc) w0 F N B k x.bs.length ix wr) (fun ix _ => x.bs.length - (intOf ix).toNat)
      case atStart => exact ⟨0, I, x, by omega, rfl, HI.out, HX.out, rfl, HP.out⟩
      case round =>
        clear HX HI HP I
        obtain ⟨j2, I, y, hj2, rfl, hi2, hy, hym, hp⟩ := hrel
        have HI := Lib.hid hi2
        have HY := Lib.hid hy
        have HYM := Lib.hid hym
        have hq := hp.ent (bk_openB hy)
        rw [hi2.len] at hq
        have HQ := Lib.hid hq
        obtain ⟨hb, h1, h2, r1, r2⟩ := opB_cells hq
        obtain ⟨c0, c1, c2, c3, -, -, -, -⟩ := bcell4 hb
        obtain ⟨g1, q1, e1, d1, -⟩ := row_cell h1 (i := k) (x := y.v) (by rw [List.getElem?_map, hy]; rfl)
        obtain ⟨g2, q2, e2, d2, -⟩ := row_cell h2 (i := k) (x := y.u) (by rw [List.getElem?_map, hy]; rfl)
        injection e1 with e1 _ e1c
        injection e2 with e2 _ e2c
        subst e1
        subst e1c
        subst e2
        subst e2c
        have HP := Lib.hid hp
        obtain ⟨yv, yu, ybs⟩ := y
        simp only at r1 r2 d1 d2 hym HQ
        obtain ⟨Av, cv, rfl⟩ := own_ctor r1
        obtain ⟨Au, cu, rfl⟩ := own_ctor r2
        generalize x.bs.length = m at *
        subst hym
        rcases Nat.lt_or_ge j2 ybs.length with hlt2 | hge2
        · obtain ⟨gv, qv, e1, a1, f1⟩ := row_cell r1 (i := j2) (x := byteV ybs[j2]) (by simp [hlt2])
          obtain ⟨gu, qu, e2, a2, f2⟩ := row_cell r2 (i := j2) (x := byteV ybs[j2]) (by simp [hlt2])
          injection e1 with e1 _ e1c
          injection e2 with e2 _ e2c
          subst e1
          subst e1c
          subst e2
          subst e2c
          generalize ybs[j2] = z at a1 a2
          unfold byteV at a1 a2
          have hM : ((k : Int) + 1) % 256 = ((UInt8.ofNat (k + 1)).toNat : Int) := by rw [UInt8.toNat_ofNat']; omega
          generalize UInt8.ofNat (k + 1) = Y at *
          have HM := Lib.hid hM
          clear hp hq hb h1 h2 r1 r2 hy hi2 hM
          go_upto_region 25 with fail
          rw [HM.out]
          clear c0 c1 c2 c3 d1 d2 a1 a2 f1 f2
          have hq2 := row_bset (HQ.out.step (row_set1 (i := j2) (byteV Y)))
          change Post (OpB b _ _ _ _ _ _ (ybs.set j2 Y) ybs _ _ _ N _) w0 F _ at hq2
          unfold byteV at hq2
          generalize wr.setCell ⟨gv, j2, none⟩ (.int .u8 (Y.toNat : Int)) = W2 at *
          have HQ2 := Lib.hid hq2
          obtain ⟨hb, h1, h2, r1, r2⟩ := opB_cells hq2
          obtain ⟨c0, c1, c2, c3, -, -, -, -⟩ := bcell4 hb
          obtain ⟨g2', q2, e2, d2, -⟩ := row_cell h2 (i := k) (x := .slice (some ⟨gu, 0, none⟩) ybs.length cu) (by rw [List.getElem?_map, HY.out]; rfl)
          injection e2 with e2 _ e2c
          injection e2 with e2
          injection e2 with e2
          subst e2
          obtain ⟨gu', qu, e2, a2, f2⟩ := row_cell r2 (i := j2) (x := byteV ybs[j2]) (by simp [hlt2])
          injection e2 with e2 _ e2c
          injection e2 with e2
          injection e2 with e2
          subst e2
          generalize ybs[j2] = z2 at a2
          unfold byteV at a2
          have HR : Hid (RelMk2 (BkC b (.slice (some ⟨g1, 0, none⟩) N cb) (.slice (some ⟨g2, 0, none⟩) N cc) (.slice Ae M ce) (.slice Ad Q cd)) Z (.slice (some ⟨g1, 0, none⟩) N cb) (.slice (some ⟨g2, 0, none⟩) N cc) w0 F N B k ybs.length (.int .i64 ((j2 : Int) + 1)) (W2.setCell ⟨gu, j2, none⟩ (.int .u8 (((k : Int) + 1) % 256)))) := Lib.hid (by
            rw [HM.out]
            have hq3 := (row_bset ((hq2.ent (Pc.Ent.swap _ _ _)).step (row_set1 (i := j2) (byteV Y)))).ent (Pc.Ent.swap _ _ _)
            refine ⟨j2 + 1, I.set k ⟨.slice (some ⟨gv, 0, none⟩) ybs.length cv, .slice (some ⟨gu, 0, none⟩) ybs.length cu, ybs.set j2 Y⟩, ⟨.slice (some ⟨gv, 0, none⟩) ybs.length cv, .slice (some ⟨gu, 0, none⟩) ybs.length cu, ybs.set j2 Y⟩, by omega, rfl, HI.out.set k (by rw [List.length_set]; exact HI.out.bs _ (List.mem_of_getElem? HY.out)), List.getElem?_set_self (by rw [HI.out.len]; exact hlt), by rw [List.length_set], bk_mark HY.out (by rw [HI.out.len]; exact hq3)⟩)
          clear hq2 hb h1 h2 r1 r2
          go_wp2_with fail
          exact ⟨HR.out, by simp only [intOf]; omega⟩
        · obtain rfl : j2 = ybs.length := by omega
          have HR : Hid (RelMk (BkC b (.slice (some ⟨g1, 0, none⟩) N cb) (.slice (some ⟨g2, 0, none⟩) N cc) (.slice Ae M ce) (.slice Ad Q cd)) Z (.slice (some ⟨g1, 0, none⟩) N cb) (.slice (some ⟨g2, 0, none⟩) N cc) w0 F N B (.int .i64 ((k : Int) + 1)) wr) := Lib.hid ⟨k + 1, I, by omega, rfl, HI.out, HP.out⟩
          clear hp hq hb h1 h2 r1 r2 hy hi2
          go_wp2_with fail
          exact ⟨HR.out, by simp only [intOf]; omega⟩
    · obtain rfl : k = N := by omega
      have HR : Hid (∃ I, IOk k B I ∧ Post (Bk9 b Ab k cb Ac cc Ae M ce Ad Q cd I J D R) w0 F wr) := Lib.hid ⟨I, hi2, by rw [← HZE.out] at hp; exact hp⟩
      clear hp hb h1 h2 hi2
      go_wp2_with fail
      go_meet
      case rel => exact HR.out
end Go.Proofs.YtmcekhgmmocajaaGreatDoor
