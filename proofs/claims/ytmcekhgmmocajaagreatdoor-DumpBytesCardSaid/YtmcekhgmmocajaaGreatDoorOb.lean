/- The Book's own: stage 2 (printed by wip/bin/genown2.py). | The Book's own: changes are marked. -/
import Derived.Test.YtmcekhgmmocajaaGreatDoorOa
import Derived.Deep.CutBlock
import Derived.Deep.CutRange
import Derived.Test.YtmcekhgmmocajaaGreatDoorDj
import Derived.Deep.RegionLaw
namespace Go.Proofs.YtmcekhgmmocajaaGreatDoor
open Go Go.RowKit Me

set_option maxRecDepth 100000 in
set_option maxHeartbeats 40000000 in
noncomputable def own_s2 : Two (own_s1.P2) := ⟨_, _, by
  intro hP1 hP2
  intro w0 w F b i j B I D R hi hj hB Ab cb Ac cc Ae ce Ad cd N HI hil M hjl Q HD hdl HL Q0 w2 u4 u5 u18 u19 u20 u21 u22 u23 u24 u25 u26 u27 u28 u29 u30 u31 u32 u33 u34 u35 u36 u37 u38 u39 u40 u41 u42 u43 u44 u45 u46 u47 u48 u49 u50 u51 u52 u53 u54 u55 u56 u57 u58 u59 u60 u61 u62 u63 u64 u65 u66 u67 u68 u69 u70 u71 u72 u73 u74 u75 u76 u77 u78 u79 u80 u81 u82 u83 u84 u85 u86 u87 u88 u89 u90 u91 u92 u93 u94 u95 u96 u97 u98 u99 u100 u101 u102 u103 u104 u105 u106 u107 u108 u109 u110 u111 u112 u113 u114 u115 u116 u117 u118 u119 u120 u121 u122 u123 u124 u125 u126 u127 u128 u129 u130 u131 u132 u133 u134 u135 u136 u137 u138 u139 u140 u141 u142 u143 u144 u145 u146 u147 u148 u149 u150 u151 u152 u153 u154 u155 u156 u157 u158 u159 u160 u161 u162 u163 u164 u165 u166 u167 u168 u169 u170 u171 u172 u173 u174 u175 u176 u177 u178 u179 u180 u181 u182 u183 u184 u185 u186 u187 u188 u189 u190 u191 u192 u193 u194 u195 u196 u197 u198 u199 u200 u201 u202 u203 u204 u205 u206 u207 u208 u209 u210 u211 u212 u213 u214 u215 u216 u217 u218 u219 u220 u221 u222 u223 u224 u225 u226 u227 u228 u229 u230 u231 u232 u233 u234 u235 u236 u237 u238 u239 u240 u241 u242 u243 u244 u245 u246 u247 u248 u249 u250 u251 u252 u253 u254 u255 u256 u257 u258 u259 u260 u261 u262 u263 u264 u265 u266 u267 u268 u269 u270 u271 u272 u273 u274 u275 u276 u277 u278 u279 u280 u281 u282 u283 u284 u285 u286 u287 u288 u289 u290 u291 u292 u293 u294 u295 u296 u297 u298 u299 u300 u301 u302 u303 u304 u305 u306 u307 u308 u309 u310 u311 u312 u313 u314 u315 u316 u317 u318 u319 u320 u321 u322 u323 u324 u325 u326 u327 u328 u329 u330 u331 u332 u333 u334 u335 u336 u337 u338 u339 u340 u341 u342 u343 u344 u345 u346 u347 u348 u349 u350 u351 u352 u353 u354 u355 J HJ HP
  go_upto_block 4 with fail
  go_cut [6, 7] from 18 (fun _ _ w' => ∃ D, RgM cD Q B D ∧ Post (Bk9 b Ab N cb Ac cc Ae M ce Ad Q cd I J D R) w0 F w')
  case first =>
    rename_i K0 hK0 J1 K1 hJ1 hK1
    refine wp_mono (Q := Exit.then K1 (fun _ _ _ => False)) ?_ (then_false K1 _)
    clear hK0 K0 Q0
    revert w0 w F b i j B I D R hi hj hB Ab cb Ac cc Ae ce Ad cd N HI hil M hjl Q HD hdl HL w2 u4 u5 u18 u19 u20 u21 u22 u23 u24 u25 u26 u27 u28 u29 u30 u31 u32 u33 u34 u35 u36 u37 u38 u39 u40 u41 u42 u43 u44 u45 u46 u47 u48 u49 u50 u51 u52 u53 u54 u55 u56 u57 u58 u59 u60 u61 u62 u63 u64 u65 u66 u67 u68 u69 u70 u71 u72 u73 u74 u75 u76 u77 u78 u79 u80 u81 u82 u83 u84 u85 u86 u87 u88 u89 u90 u91 u92 u93 u94 u95 u96 u97 u98 u99 u100 u101 u102 u103 u104 u105 u106 u107 u108 u109 u110 u111 u112 u113 u114 u115 u116 u117 u118 u119 u120 u121 u122 u123 u124 u125 u126 u127 u128 u129 u130 u131 u132 u133 u134 u135 u136 u137 u138 u139 u140 u141 u142 u143 u144 u145 u146 u147 u148 u149 u150 u151 u152 u153 u154 u155 u156 u157 u158 u159 u160 u161 u162 u163 u164 u165 u166 u167 u168 u169 u170 u171 u172 u173 u174 u175 u176 u177 u178 u179 u180 u181 u182 u183 u184 u185 u186 u187 u188 u189 u190 u191 u192 u193 u194 u195 u196 u197 u198 u199 u200 u201 u202 u203 u204 u205 u206 u207 u208 u209 u210 u211 u212 u213 u214 u215 u216 u217 u218 u219 u220 u221 u222 u223 u224 u225 u226 u227 u228 u229 u230 u231 u232 u233 u234 u235 u236 u237 u238 u239 u240 u241 u242 u243 u244 u245 u246 u247 u248 u249 u250 u251 u252 u253 u254 u255 u256 u257 u258 u259 u260 u261 u262 u263 u264 u265 u266 u267 u268 u269 u270 u271 u272 u273 u274 u275 u276 u277 u278 u279 u280 u281 u282 u283 u284 u285 u286 u287 u288 u289 u290 u291 u292 u293 u294 u295 u296 u297 u298 u299 u300 u301 u302 u303 u304 u305 u306 u307 u308 u309 u310 u311 u312 u313 u314 u315 u316 u317 u318 u319 u320 u321 u322 u323 u324 u325 u326 u327 u328 u329 u330 u331 u332 u333 u334 u335 u336 u337 u338 u339 u340 u341 u342 u343 u344 u345 u346 u347 u348 u349 u350 u351 u352 u353 u354 u355 J HJ HP J1 K1 hJ1 hK1
    exact hP1.out
  case rest =>
  clear HP HD D
  obtain ⟨D, hd1, hp⟩ := hcut
  rename World => w3
  have HD := Lib.hid hd1
  have HP := Lib.hid hp
  clear hd1 hp w2
  rename_i z18 z19 z20 z21 z22 z23 z24 z25 z26 z27 z28 z29 z30 z31 z32 z33 z34 z35 z36 z37 z38 z39 z40 z41 z42 z43 z44 z45 z46 z47 z48 z49 z50 z51 z52 z53 z54 z55 z56 z57 z58 z59 z60 z61 z62 z63 z64 z65 z66 z67 z68 z69 z70 z71 z72 z73 z74 z75 z76 z77 z78 z79 z80 z81 z82 z83 z84 z85 z86 z87 z88 z89 z90 z91 z92 z93 z94 z95 z96 z97 z98 z99 z100 z101 z102 z103 z104 z105 z106 z107 z108 z109 z110 z111 z112 z113 z114 z115 z116 z117 z118 z119 z120 z121 z122 z123 z124 z125 z126 z127 z128 z129 z130 z131 z132 z133 z134 z135 z136 z137 z138 z139 z140 z141 z142 z143 z144 z145 z146 z147 z148 z149 z150 z151 z152 z153 z154 z155 z156 z157 z158 z159 z160 z161 z162 z163 z164 z165 z166 z167 z168 z169 z170 z171 z172 z173 z174 z175 z176 z177 z178 z179 z180 z181 z182 z183 z184 z185 z186 z187 z188 z189 z190 z191 z192 z193 z194 z195 z196 z197 z198 z199 z200 z201 z202 z203 z204 z205 z206 z207 z208 z209 z210 z211 z212 z213 z214 z215 z216 z217 z218 z219 z220 z221 z222 z223 z224 z225 z226 z227 z228 z229 z230 z231 z232 z233 z234 z235 z236 z237 z238 z239 z240 z241 z242 z243 z244 z245 z246 z247 z248 z249 z250 z251 z252 z253 z254 z255 z256 z257 z258 z259 z260 z261 z262 z263 z264 z265 z266 z267 z268 z269 z270 z271 z272 z273 z274 z275 z276 z277 z278 z279 z280 z281 z282 z283 z284 z285 z286 z287 z288 z289 z290 z291 z292 z293 z294 z295 z296 z297 z298 z299 z300 z301 z302 z303 z304 z305 z306 z307 z308 z309 z310 z311 z312 z313 z314 z315 z316 z317 z318 z319 z320 z321 z322 z323 z324 z325 z326 z327 z328 z329 z330 z331 z332 z333 z334 z335 z336 z337 z338 z339 z340 z341 z342 z343 z344 z345 z346 z347 z348 z349 z350 z351 z352 z353 z354 z355 K0 hK0
  refine hK0 _ _ ?_
  clear hK0 K0 z18 z19 z20 z21 z22 z23 z24 z25 z26 z27 z28 z29 z30 z31 z32 z33 z34 z35 z36 z37 z38 z39 z40 z41 z42 z43 z44 z45 z46 z47 z48 z49 z50 z51 z52 z53 z54 z55 z56 z57 z58 z59 z60 z61 z62 z63 z64 z65 z66 z67 z68 z69 z70 z71 z72 z73 z74 z75 z76 z77 z78 z79 z80 z81 z82 z83 z84 z85 z86 z87 z88 z89 z90 z91 z92 z93 z94 z95 z96 z97 z98 z99 z100 z101 z102 z103 z104 z105 z106 z107 z108 z109 z110 z111 z112 z113 z114 z115 z116 z117 z118 z119 z120 z121 z122 z123 z124 z125 z126 z127 z128 z129 z130 z131 z132 z133 z134 z135 z136 z137 z138 z139 z140 z141 z142 z143 z144 z145 z146 z147 z148 z149 z150 z151 z152 z153 z154 z155 z156 z157 z158 z159 z160 z161 z162 z163 z164 z165 z166 z167 z168 z169 z170 z171 z172 z173 z174 z175 z176 z177 z178 z179 z180 z181 z182 z183 z184 z185 z186 z187 z188 z189 z190 z191 z192 z193 z194 z195 z196 z197 z198 z199 z200 z201 z202 z203 z204 z205 z206 z207 z208 z209 z210 z211 z212 z213 z214 z215 z216 z217 z218 z219 z220 z221 z222 z223 z224 z225 z226 z227 z228 z229 z230 z231 z232 z233 z234 z235 z236 z237 z238 z239 z240 z241 z242 z243 z244 z245 z246 z247 z248 z249 z250 z251 z252 z253 z254 z255 z256 z257 z258 z259 z260 z261 z262 z263 z264 z265 z266 z267 z268 z269 z270 z271 z272 z273 z274 z275 z276 z277 z278 z279 z280 z281 z282 z283 z284 z285 z286 z287 z288 z289 z290 z291 z292 z293 z294 z295 z296 z297 z298 z299 z300 z301 z302 z303 z304 z305 z306 z307 z308 z309 z310 z311 z312 z313 z314 z315 z316 z317 z318 z319 z320 z321 z322 z323 z324 z325 z326 z327 z328 z329 z330 z331 z332 z333 z334 z335 z336 z337 z338 z339 z340 z341 z342 z343 z344 z345 z346 z347 z348 z349 z350 z351 z352 z353 z354 z355
  revert w0 w F b i j B I R hi hj hB Ab cb Ac cc Ae ce Ad cd N HI hil M hjl Q hdl HL Q0 u4 u5 J HJ w3 u6 u7 u18 u19 u20 u21 u22 u23 u24 u25 u26 u27 u28 u29 u30 u31 u32 u33 u34 u35 u36 u37 u38 u39 u40 u41 u42 u43 u44 u45 u46 u47 u48 u49 u50 u51 u52 u53 u54 u55 u56 u57 u58 u59 u60 u61 u62 u63 u64 u65 u66 u67 u68 u69 u70 u71 u72 u73 u74 u75 u76 u77 u78 u79 u80 u81 u82 u83 u84 u85 u86 u87 u88 u89 u90 u91 u92 u93 u94 u95 u96 u97 u98 u99 u100 u101 u102 u103 u104 u105 u106 u107 u108 u109 u110 u111 u112 u113 u114 u115 u116 u117 u118 u119 u120 u121 u122 u123 u124 u125 u126 u127 u128 u129 u130 u131 u132 u133 u134 u135 u136 u137 u138 u139 u140 u141 u142 u143 u144 u145 u146 u147 u148 u149 u150 u151 u152 u153 u154 u155 u156 u157 u158 u159 u160 u161 u162 u163 u164 u165 u166 u167 u168 u169 u170 u171 u172 u173 u174 u175 u176 u177 u178 u179 u180 u181 u182 u183 u184 u185 u186 u187 u188 u189 u190 u191 u192 u193 u194 u195 u196 u197 u198 u199 u200 u201 u202 u203 u204 u205 u206 u207 u208 u209 u210 u211 u212 u213 u214 u215 u216 u217 u218 u219 u220 u221 u222 u223 u224 u225 u226 u227 u228 u229 u230 u231 u232 u233 u234 u235 u236 u237 u238 u239 u240 u241 u242 u243 u244 u245 u246 u247 u248 u249 u250 u251 u252 u253 u254 u255 u256 u257 u258 u259 u260 u261 u262 u263 u264 u265 u266 u267 u268 u269 u270 u271 u272 u273 u274 u275 u276 u277 u278 u279 u280 u281 u282 u283 u284 u285 u286 u287 u288 u289 u290 u291 u292 u293 u294 u295 u296 u297 u298 u299 u300 u301 u302 u303 u304 u305 u306 u307 u308 u309 u310 u311 u312 u313 u314 u315 u316 u317 u318 u319 u320 u321 u322 u323 u324 u325 u326 u327 u328 u329 u330 u331 u332 u333 u334 u335 u336 u337 u338 u339 u340 u341 u342 u343 u344 u345 u346 u347 u348 u349 u350 u351 u352 u353 u354 u355 D HD HP
  exact hP2.out⟩
end Go.Proofs.YtmcekhgmmocajaaGreatDoor
namespace Go.Proofs.YtmcekhgmmocajaaGreatDoor
open Go Go.RowKit Me

theorem cD_one (k : Nat) : ∀ v ∈ (cD k).toArray.toList, v.oneCell' = true := by
  intro v hv
  simp only [cD, List.mem_cons, List.not_mem_nil, or_false] at hv
  rcases hv with h | h | h <;> (subst h; rfl)
theorem info54t : (Tryz.prog.info? 54).map (·.size) = some 3 := by kernel_rfl
/-- The two bytes of a change's name, made into a string. -/
theorem conv_mk (w : World) (k : Nat) : (convert 22 9 (.slice (some ⟨w.heap.size, 0, none⟩) 2 2)).run Tryz.prog (w.alloc (.cells #[.int .u8 ((k : Int) % 256), .int .u8 ((k : Int) / 256 % 256)] 5)).drew = .ok (.string (mkS k)) (w.alloc (.cells #[.int .u8 ((k : Int) % 256), .int .u8 ((k : Int) / 256 % 256)] 5)).drew :=
  conv_bytes (w := (w.alloc (.cells #[.int .u8 ((k : Int) % 256), .int .u8 ((k : Int) / 256 % 256)] 5)).drew) (g := w.heap.size) (off := 0) 2 [UInt8.ofNat k, UInt8.ofNat (k / 256)] (fun j b hj => by
    show (w.alloc _).cell? _ = _
    rw [cell_of_row _ _ _ _ _ _ (heap_alloc_new w _)]
    match j, hj with
    | 0, hj =>
      simp at hj
      subst hj
      simp [byteV]
    | 1, hj =>
      simp at hj
      subst hj
      simp [byteV])
theorem spl_three (xs : List Value) (o : Nat) (a b c : Value) (h : o + 3 ≤ xs.length) : spl xs o [a, b, c] = ((xs.set o a).set (o + 1) b).set (o + 2) c := by
  unfold spl
  refine List.ext_getElem? fun i => ?_
  simp only [List.length_cons, List.length_nil, Nat.zero_add, Nat.reduceAdd]
  rw [List.append_assoc, List.getElem?_set, List.getElem?_set, List.getElem?_set, List.length_set, List.length_set]
  by_cases h1 : i < o
  · rw [List.getElem?_append_left (by rw [List.length_take]; omega), List.getElem?_take_of_lt h1, if_neg (by omega), if_neg (by omega), if_neg (by omega)]
  · rw [List.getElem?_append_right (by rw [List.length_take]; omega), List.length_take, show min o xs.length = o by omega]
    by_cases h2 : i < o + 3
    · obtain h3 | h3 | h3 : i = o ∨ i = o + 1 ∨ i = o + 2 := by omega
      · subst h3
        rw [Nat.sub_self, if_neg (by omega), if_neg (by omega), if_pos rfl, if_pos (by omega)]
        rfl
      · subst h3
        rw [show o + 1 - o = 1 by omega, if_neg (by omega), if_pos rfl, if_pos (by omega)]
        rfl
      · subst h3
        rw [show o + 2 - o = 2 by omega, if_pos rfl, if_pos (by omega)]
        rfl
    · rw [List.getElem?_append_right (by simp; omega), if_neg (by omega), if_neg (by omega), if_neg (by omega), List.getElem?_drop]
      congr 1
      simp
      omega
set_option maxRecDepth 100000 in
set_option maxHeartbeats 40000000 in
theorem own_b : own_s2.P1 := by
  intro w0 w F b i j B I D R hi hj hB Ab cb Ac cc Ae ce Ad cd N HI hil M hjl Q HD hdl HL w2 u4 u5 u18 u19 u20 u21 u22 u23 u24 u25 u26 u27 u28 u29 u30 u31 u32 u33 u34 u35 u36 u37 u38 u39 u40 u41 u42 u43 u44 u45 u46 u47 u48 u49 u50 u51 u52 u53 u54 u55 u56 u57 u58 u59 u60 u61 u62 u63 u64 u65 u66 u67 u68 u69 u70 u71 u72 u73 u74 u75 u76 u77 u78 u79 u80 u81 u82 u83 u84 u85 u86 u87 u88 u89 u90 u91 u92 u93 u94 u95 u96 u97 u98 u99 u100 u101 u102 u103 u104 u105 u106 u107 u108 u109 u110 u111 u112 u113 u114 u115 u116 u117 u118 u119 u120 u121 u122 u123 u124 u125 u126 u127 u128 u129 u130 u131 u132 u133 u134 u135 u136 u137 u138 u139 u140 u141 u142 u143 u144 u145 u146 u147 u148 u149 u150 u151 u152 u153 u154 u155 u156 u157 u158 u159 u160 u161 u162 u163 u164 u165 u166 u167 u168 u169 u170 u171 u172 u173 u174 u175 u176 u177 u178 u179 u180 u181 u182 u183 u184 u185 u186 u187 u188 u189 u190 u191 u192 u193 u194 u195 u196 u197 u198 u199 u200 u201 u202 u203 u204 u205 u206 u207 u208 u209 u210 u211 u212 u213 u214 u215 u216 u217 u218 u219 u220 u221 u222 u223 u224 u225 u226 u227 u228 u229 u230 u231 u232 u233 u234 u235 u236 u237 u238 u239 u240 u241 u242 u243 u244 u245 u246 u247 u248 u249 u250 u251 u252 u253 u254 u255 u256 u257 u258 u259 u260 u261 u262 u263 u264 u265 u266 u267 u268 u269 u270 u271 u272 u273 u274 u275 u276 u277 u278 u279 u280 u281 u282 u283 u284 u285 u286 u287 u288 u289 u290 u291 u292 u293 u294 u295 u296 u297 u298 u299 u300 u301 u302 u303 u304 u305 u306 u307 u308 u309 u310 u311 u312 u313 u314 u315 u316 u317 u318 u319 u320 u321 u322 u323 u324 u325 u326 u327 u328 u329 u330 u331 u332 u333 u334 u335 u336 u337 u338 u339 u340 u341 u342 u343 u344 u345 u346 u347 u348 u349 u350 u351 u352 u353 u354 u355 J HJ HP J1 K1 hJ1 hK1
  have HZ := Lib.hid (show Post ((BkC b (.slice Ab N cb) (.slice Ac N cc) (.slice Ae M ce) (.slice Ad Q cd)).star ((RgJ 49 54 3 (.slice Ad Q cd) D).star ((RbI (.slice Ab N cb) (.slice Ac N cc) I).star ((RgJ 23 47 5 (.slice Ae M ce) J).star R)))) w0 F w2 from HP.out.ent ((Pc.Ent.refl _).mono (Pc.Ent.at3 _ _ _ _)))
  clear HP
  generalize hZ : (RbI (.slice Ab N cb) (.slice Ac N cc) I).star ((RgJ 23 47 5 (.slice Ae M ce) J).star R) = Z at HZ
  have HZE := Lib.hid hZ
  clear hZ
  go_wp2_with fail
  go_loopw [6, 7] (fun ix _ wr => RelG (BkC b (.slice Ab N cb) (.slice Ac N cc) (.slice Ae M ce) (.slice Ad Q cd)) 49 54 3 (.slice Ad Q cd) Z cD w0 F Q B ix wr) (fun ix _ _ => Q - (intOf ix).toNat)
  case atStart => exact ⟨0, D, by omega, rfl, RgP.start HD.out, HZ.out⟩
  case round =>
    clear HZ HD D
    obtain ⟨k, D, hk, rfl, hj2, hp⟩ := hrel
    have HP := Lib.hid hp
    have HD := Lib.hid hj2
    obtain ⟨hb, h1⟩ := bk_cellsG hp
    obtain ⟨c0, c1, c2, c3, -, -, -, -⟩ := bcell4 hb
    rcases Nat.lt_or_ge k Q with hlt | hge
    · obtain ⟨x, hx⟩ : ∃ x, D[k]? = some x := ⟨_, List.getElem?_eq_getElem (by rw [hj2.len]; exact hlt)⟩
      have HX := Lib.hid hx
      have hxb := (hj2.al k x hx).1
      clear hp hb h1 hx hj2
      go_wp2_with fail
      clear c0 c1 c2 c3
      go_loopw [7] (fun ix wr => RelG2 (BkC b (.slice Ab N cb) (.slice Ac N cc) (.slice Ae M ce) (.slice Ad Q cd)) 49 54 3 (.slice Ad Q cd) Z cD w0 F Q B k x.n ix wr) (fun ix _ => x.n - (intOf ix).toNat)
      case atStart => exact ⟨0, D, x, by omega, rfl, HD.out, HX.out, rfl, by simp [reps], HP.out⟩
      case round =>
        clear HD HX HP D
        obtain ⟨q, D, y, hq, rfl, hj3, hy, hym, htk, hp⟩ := hrel
        have HD := Lib.hid hj3
        have HY := Lib.hid hy
        have HYM := Lib.hid hym
        have HTK := Lib.hid htk
        have hpo := hp.ent (bk_openG hy)
        have hlJ := hj3.len
        rw [hlJ] at hpo
        have HQ := Lib.hid hpo
        obtain ⟨hb, h1, r1⟩ := opG_cells hpo
        obtain ⟨c0, c1, c2, c3, -, -, -, -⟩ := bcell4 hb
        obtain ⟨g1, q1, e1, d1, -⟩ := row_cell h1 (i := k) (x := y.v) (by rw [List.getElem?_map, hy]; rfl)
        injection e1 with e1 _ e1c
        subst e1
        subst e1c
        have HP := Lib.hid hp
        have HLJ := Lib.hid hlJ
        obtain ⟨yv, yn, yxs⟩ := y
        simp only at r1 d1 hym HQ HTK
        have hlx := r1.1
        have HLX := Lib.hid hlx
        obtain ⟨Av, cv, rfl⟩ := own_ctor r1
        generalize x.n = m at *
        subst hym
        rcases Nat.lt_or_ge q yn with hlt2 | hge2
        · obtain ⟨gv, qv, e2⟩ : ∃ g c, Value.slice Av yn cv = .slice (some ⟨g, 0, none⟩) yn c := by
            rcases ownsRow_form r1 with ⟨-, h0, -⟩ | ⟨g, c, h0, -⟩
            · omega
            · exact ⟨g, c, h0⟩
          injection e2 with e2 _ e2c
          subst e2
          subst e2c
          have HH := Lib.hid (HQ.out.still (w' := (wr.alloc (.cells #[.int .u8 ((k : Int) % 256), .int .u8 ((k : Int) / 256 % 256)] 5)).drew) (((Mods.refl [] wr).alloc _).drew))
          obtain ⟨hb', h1', r1'⟩ := opG_cells HH.out
          obtain ⟨-, -, -, c3', -, -, -, -⟩ := bcell4 hb'
          obtain ⟨g1', q1', e1', d1', -⟩ := row_cell h1' (i := k) (x := .slice (some ⟨gv, 0, none⟩) yn cv) (by rw [List.getElem?_map, HY.out]; rfl)
          injection e1' with e1' _ e1c'
          clear e1c'
          injection e1' with e1'
          injection e1' with e1'
          subst e1'
          obtain ⟨z0, hz0⟩ : ∃ z, yxs[q * 3]? = some z := ⟨_, List.getElem?_eq_getElem (by have := HLX.out; omega)⟩
          obtain ⟨z1, hz1⟩ : ∃ z, yxs[q * 3 + 1]? = some z := ⟨_, List.getElem?_eq_getElem (by have := HLX.out; omega)⟩
          obtain ⟨z2, hz2⟩ : ∃ z, yxs[q * 3 + 2]? = some z := ⟨_, List.getElem?_eq_getElem (by have := HLX.out; omega)⟩
          obtain ⟨a0, f0⟩ := row_cellS r1' hz0
          have hs1 := HH.out.step (row_setc (i := q * 3) (.string (mkS k)))
          have hs2 := hs1.step (row_setc (i := q * 3 + 1) (.bool false))
          have hs3 := hs2.step (row_setc (i := q * 3 + 2) (.bool false))
          obtain ⟨a1, f1⟩ := row_cellS (i := q * 3 + 1) (x := z1) (hs1.rowAt (Pc.Ent.left _ _)) (by rw [List.getElem?_set_ne (by omega)]; exact hz1)
          obtain ⟨a2, f2⟩ := row_cellS (i := q * 3 + 2) (x := z2) (hs2.rowAt (Pc.Ent.left _ _)) (by rw [List.getElem?_set_ne (by omega), List.getElem?_set_ne (by omega)]; exact hz2)
          change (((wr.alloc (.cells #[.int .u8 ((k : Int) % 256), .int .u8 ((k : Int) / 256 % 256)] 5)).setCell ⟨gv, q * 3, none⟩ (.string (mkS k))).drew).cell? ⟨gv, q * 3 + 1, none⟩ = _ at a1
          change (((wr.alloc (.cells #[.int .u8 ((k : Int) % 256), .int .u8 ((k : Int) / 256 % 256)] 5)).setCell ⟨gv, q * 3, none⟩ (.string (mkS k))).drew).frozen? ⟨gv, q * 3 + 1, none⟩ = _ at f1
          change ((((wr.alloc (.cells #[.int .u8 ((k : Int) % 256), .int .u8 ((k : Int) / 256 % 256)] 5)).setCell ⟨gv, q * 3, none⟩ (.string (mkS k))).setCell ⟨gv, q * 3 + 1, none⟩ (.bool false)).drew).cell? ⟨gv, q * 3 + 2, none⟩ = _ at a2
          change ((((wr.alloc (.cells #[.int .u8 ((k : Int) % 256), .int .u8 ((k : Int) / 256 % 256)] 5)).setCell ⟨gv, q * 3, none⟩ (.string (mkS k))).setCell ⟨gv, q * 3 + 1, none⟩ (.bool false)).drew).frozen? ⟨gv, q * 3 + 2, none⟩ = _ at f2
          have hs4 : Post (OpG 49 54 3 (BkC b (.slice Ab N cb) (.slice Ac N cc) (.slice Ae M ce) (.slice (some ⟨g1, 0, none⟩) Q cd)) (.slice (some ⟨g1, 0, none⟩) Q cd) Q (D.map Rg.v) (.slice (some ⟨gv, 0, none⟩) yn cv) yn (spl yxs (q * 3) (cD k)) (rgs 54 3 (D.eraseIdx k)) Z) w0 F
              (((((wr.alloc (.cells #[.int .u8 ((k : Int) % 256), .int .u8 ((k : Int) / 256 % 256)] 5)).setCell ⟨gv, q * 3, none⟩ (.string (mkS k))).setCell ⟨gv, q * 3 + 1, none⟩ (.bool false)).setCell ⟨gv, q * 3 + 2, none⟩ (.bool false)).drew) := by
            rw [show cD k = [.string (mkS k), .bool false, .bool false] from rfl, spl_three yxs (q * 3) _ _ _ (by have := HLX.out; omega)]
            exact hs3
          obtain ⟨hb9, h19, r19⟩ := opG_cells hs4
          obtain ⟨-, -, -, c39, -, -, -, -⟩ := bcell4 hb9
          obtain ⟨g19, q19, e19, d19, -⟩ := row_cell h19 (i := k) (x := .slice (some ⟨gv, 0, none⟩) yn cv) (by rw [List.getElem?_map, HY.out]; rfl)
          injection e19 with e19 _ e1c9
          clear e1c9
          injection e19 with e19
          injection e19 with e19
          subst e19
          have hst2 := bk_turnG (x := ⟨.slice (some ⟨gv, 0, none⟩) yn cv, yn, yxs⟩) (n := yn) (xs := spl yxs (q * 3) (cD k)) HY.out (by rw [HLJ.out]; exact hs4)
          have HR : Hid (RelG2 (BkC b (.slice Ab N cb) (.slice Ac N cc) (.slice Ae M ce) (.slice (some ⟨g1, 0, none⟩) Q cd)) 49 54 3 (.slice (some ⟨g1, 0, none⟩) Q cd) Z cD w0 F Q B k yn (.int .i64 ((q : Int) + 1)) (((((wr.alloc (.cells #[.int .u8 ((k : Int) % 256), .int .u8 ((k : Int) / 256 % 256)] 5)).setCell ⟨gv, q * 3, none⟩ (.string (mkS k))).setCell ⟨gv, q * 3 + 1, none⟩ (.bool false)).setCell ⟨gv, q * 3 + 2, none⟩ (.bool false)).drew)) := Lib.hid
            ⟨q + 1, D.set k ⟨.slice (some ⟨gv, 0, none⟩) yn cv, yn, spl yxs (q * 3) (cD k)⟩, ⟨.slice (some ⟨gv, 0, none⟩) yn cv, yn, spl yxs (q * 3) (cD k)⟩, by omega, rfl, HD.out.set (HD.out.al k _ HY.out).1, List.getElem?_set_self (by rw [HLJ.out]; exact hlt), rfl, spl_reps (cs := cD k) HTK.out HLX.out hlt2, hst2⟩
          clear hs1 hs2 hs3 hs4 hst2 hb9 h19 r19
          have hcv := conv_mk wr k
          have s1 : IntKind.u8.wrap (k : Int) = (k : Int) % 256 := IntKind.wrap_u8 _
          have s2 : IntKind.i64.wrap ((k : Int) / 256) = (k : Int) / 256 := IntWalk.i64_in _ (by omega)
          have s3 : IntKind.u8.wrap ((k : Int) / 256) = (k : Int) / 256 % 256 := IntKind.wrap_u8 _
          clear hp hpo hb h1 r1 hy hj3 htk hlJ hlx hb' h1' r1' hz0 hz1 hz2 c0 c1 c2
          go_upto_region 17 with fail
          go_region_law (fail)
          all_goals
            clear c3 d1 c3' d1' a0 a1 a2 f0 f1 f2 hcv
            go_wp2_with fail
            exact ⟨HR.out, by simp only [intOf]; omega⟩
        · obtain rfl : q = yn := by omega
          have HR : Hid (RelG (BkC b (.slice Ab N cb) (.slice Ac N cc) (.slice Ae M ce) (.slice (some ⟨g1, 0, none⟩) Q cd)) 49 54 3 (.slice (some ⟨g1, 0, none⟩) Q cd) Z cD w0 F Q B (.int .i64 ((k : Int) + 1)) wr) := Lib.hid ⟨k + 1, D, by omega, rfl, HD.out.next HY.out (by rw [← HTK.out, List.take_of_length_le (by rw [HLX.out]; exact Nat.le_refl _)]), HP.out⟩
          clear hp hpo hb h1 r1 hy hj3 htk hlJ hlx
          go_wp2_with fail
          exact ⟨HR.out, by simp only [intOf]; omega⟩
    · obtain rfl : k = Q := by omega
      have HR : Hid (∃ D, RgM cD k B D ∧ Post (Bk9 b Ab N cb Ac cc Ae M ce Ad k cd I J D R) w0 F wr) := Lib.hid ⟨D, hj2.done, by rw [← HZE.out] at hp; exact hp.ent ((Pc.Ent.refl _).mono (Pc.perm [RgJ 49 54 3 (.slice Ad k cd) D, RbI (.slice Ab N cb) (.slice Ac N cc) I, RgJ 23 47 5 (.slice Ae M ce) J, R] [1, 2, 0, 3] (n := 4) (by decide)))⟩
      clear hp hb h1 hj2
      go_wp2_with fail
      go_meet
      case rel => exact HR.out
end Go.Proofs.YtmcekhgmmocajaaGreatDoor
