/- The Book's own, in parts. | The Book's own: stage 1 (printed by wip/bin/genown2.py). | The Book's own: what its loops keep. | The Book's own: entries are marked. -/
import Derived.Test.YtmcekhgmmocajaaGreatDoorBg
import Derived.Deep.CutBlock
import Derived.Deep.CutRange
import Derived.Deep.RegionLaw
namespace Go.Proofs.YtmcekhgmmocajaaGreatDoor
open Go Go.RowKit Me

/-- Some cells, so many times. -/
def reps (cs : List Value) : Nat → List Value
  | 0 => []
  | n + 1 => reps cs n ++ cs
theorem reps_len (cs : List Value) : ∀ n, (reps cs n).length = n * cs.length
  | 0 => by simp [reps]
  | n + 1 => by rw [reps, List.length_append, reps_len cs n, Nat.add_mul, Nat.one_mul]
theorem reps_at (cs : List Value) : ∀ (n i j : Nat), i < n → j < cs.length → (reps cs n)[i * cs.length + j]? = cs[j]?
  | 0, i, j, h, _ => by omega
  | n + 1, i, j, h, hj => by
    have hl := reps_len cs n
    by_cases hi : i < n
    · have hlt : i * cs.length + j < n * cs.length := by
        have := Nat.mul_le_mul_right cs.length (Nat.succ_le_of_lt hi)
        rw [Nat.succ_mul] at this
        omega
      rw [reps, List.getElem?_append_left (by omega)]
      exact reps_at cs n i j hi hj
    · obtain rfl : i = n := by omega
      rw [reps, List.getElem?_append_right (by omega), hl, show i * cs.length + j - i * cs.length = j by omega]
theorem spl_reps {cs xs : List Value} {j n : Nat} (h : xs.take (j * cs.length) = reps cs j) (hl : xs.length = n * cs.length) (hj : j < n) : (spl xs (j * cs.length) cs).take ((j + 1) * cs.length) = reps cs (j + 1) := by
  have hle : j * cs.length + cs.length ≤ xs.length := by
    rw [hl]
    have := Nat.mul_le_mul_right cs.length (Nat.succ_le_of_lt hj)
    rw [Nat.succ_mul] at this
    exact this
  unfold spl
  rw [h, List.take_left' (by rw [List.length_append, reps_len, Nat.add_mul, Nat.one_mul])]
  rfl
/-- The cells that own lays. -/
def cE (k : Nat) : List Value := [.string ⟨#[]⟩, .int .u32 0, .int .u32 (k : Int), .string ⟨#[]⟩, .slice none 0 0]
def mkS (k : Nat) : ByteArray := ⟨#[UInt8.ofNat k, UInt8.ofNat (k / 256)]⟩
def cD (k : Nat) : List Value := [.string (mkS k), .bool false, .bool false]
/-- Lists of which each is marked by its number. -/
structure RgM (cs : Nat → List Value) (M B : Nat) (J : List Rg) : Prop where
  len : J.length = M
  al : ∀ i x, J[i]? = some x → x.n ≤ B ∧ x.xs = reps (cs i) x.n
structure RgK (M B : Nat) (J : List Rg) : Prop where
  len : J.length = M
  al : ∀ x ∈ J, x.n ≤ B
structure IOk (N B : Nat) (I : List It) : Prop where
  len : I.length = N
  bs : ∀ x ∈ I, x.bs.length ≤ B
theorem then_false (K : Act → World → Prop) (Q : Exit → Act → World → Prop) : ∀ e a w, Exit.then K (fun _ _ _ => False) e a w → Exit.then K Q e a w := by
  intro e a w h
  cases e with
  | normal => exact h
  | _ => exact h.elim
/-- A proof in two parts. -/
structure Two (S : Prop) where
  P1 : Prop
  P2 : Prop
  h : Hid P1 → Hid P2 → S
/-- The Book with its headers told. -/
abbrev Bk9 (b : Nat) (Ab : Option Addr) (N cb : Nat) (Ac : Option Addr) (cc : Nat) (Ae : Option Addr) (M ce : Nat) (Ad : Option Addr) (Q cd : Nat) (I : List It) (J D : List Rg) (R : Pc) : Pc :=
  BkO b (.slice Ab N cb) (.slice Ac N cc) (.slice Ae M ce) (.slice Ad Q cd) I J D R
end Go.Proofs.YtmcekhgmmocajaaGreatDoor
namespace Go.Proofs.YtmcekhgmmocajaaGreatDoor
open Go Go.RowKit Me

set_option maxRecDepth 100000 in
set_option maxHeartbeats 40000000 in
noncomputable def own_s1 : Two (∀ (w0 w : World) (F : List Nat) (b i j B : Nat) (vb vc ve vd : Value) (I : List It) (J D : List Rg) (R : Pc), Post (BkO b vb vc ve vd I J D R) w0 F w → BkOk i j B I J D → i ≤ 1000000000000 → j ≤ 1000000000 → B ≤ 1000000000 →
    Calls Tryz.prog 15 #[.pointer (some ⟨b, 0, none⟩)] w fun e w' => e = .returned (.bool true) ∧ Post ((BkN b i j (B + 40)).star R) w0 F w') := ⟨_, _, by
  intro hP1 hP2
  intro w0 w F b i j B vb vc ve vd I J D R h hok hi hj hB
  have HS := Lib.hid (still_any h (by have := hok.li; omega))
  have HI : Hid (IOk I.length B I) := Lib.hid ⟨rfl, hok.bi⟩
  have HJ : Hid (RgK J.length B J) := Lib.hid ⟨rfl, hok.bj⟩
  have HD : Hid (RgK D.length B D) := Lib.hid ⟨rfl, hok.bd⟩
  have hil : I.length ≤ 1000000000000 := by have := hok.li; omega
  have hjl : J.length ≤ 1000000000 := by have := hok.lj; omega
  have hdl : D.length ≤ 1000000000 := by have := hok.ld; omega
  obtain ⟨hb, h1, h2⟩ := bk_cellsB h
  have h3 := (bk_cellsG (h.ent ((Pc.Ent.refl _).mono (Pc.Ent.swap _ _ _)))).2
  have h4 := (bk_cellsG (h.ent ((Pc.Ent.refl _).mono (Pc.Ent.at3 _ _ _ _)))).2
  obtain ⟨Ab, cb, rfl⟩ := own_ctor h1
  obtain ⟨Ac, cc, rfl⟩ := own_ctor h2
  obtain ⟨Ae, ce, rfl⟩ := own_ctor h3
  obtain ⟨Ad, cd, rfl⟩ := own_ctor h4
  have HL : Hid (I.length ≤ i ∧ J.length ≤ j ∧ D.length ≤ j) := Lib.hid ⟨hok.li, hok.lj, hok.ld⟩
  clear h hok hb h1 h2 h3 h4
  generalize hN : I.length = N at *
  generalize hM : J.length = M at *
  generalize hQ : D.length = Q at *
  clear hN hM hQ
  go_enter Tryz.func15, Tryz.ntmps15
  go_wp2_with fail
  refine HS.out.mono ?_; rintro e w1 ⟨rfl, hp⟩
  have H1 : Hid (Post (Bk9 b Ab N cb Ac cc Ae M ce Ad Q cd I J D R) w0 F w1) := Lib.hid hp
  clear hp HS
  go_upto_block 0 with fail
  go_cut [4, 5] from 18 (fun _ _ w' => ∃ J, RgM cE M B J ∧ Post (Bk9 b Ab N cb Ac cc Ae M ce Ad Q cd I J D R) w0 F w')
  case first =>
    rename_i Q0 K0 hK0 J1 K1 hJ1 hK1
    refine wp_mono (Q := Exit.then K1 (fun _ _ _ => False)) ?_ (then_false K1 _)
    clear hK0 K0 Q0
    revert w0 w F b i j B I J D R hi hj hB Ab cb Ac cc Ae ce Ad cd N HI hil M HJ hjl Q HD hdl HL w1 H1 J1 K1 hJ1 hK1
    exact hP1.out
  case rest =>
  clear H1 HJ J
  obtain ⟨J, hj1, hp⟩ := hcut
  rename World => w2
  have HJ := Lib.hid hj1
  have HP := Lib.hid hp
  clear hj1 hp w1
  rename_i Q0 K0 hK0
  refine hK0 _ _ ?_
  clear hK0 K0
  revert w0 w F b i j B I D R hi hj hB Ab cb Ac cc Ae ce Ad cd N HI hil M hjl Q HD hdl HL Q0 w2 u4 u5 u18 u19 u20 u21 u22 u23 u24 u25 u26 u27 u28 u29 u30 u31 u32 u33 u34 u35 u36 u37 u38 u39 u40 u41 u42 u43 u44 u45 u46 u47 u48 u49 u50 u51 u52 u53 u54 u55 u56 u57 u58 u59 u60 u61 u62 u63 u64 u65 u66 u67 u68 u69 u70 u71 u72 u73 u74 u75 u76 u77 u78 u79 u80 u81 u82 u83 u84 u85 u86 u87 u88 u89 u90 u91 u92 u93 u94 u95 u96 u97 u98 u99 u100 u101 u102 u103 u104 u105 u106 u107 u108 u109 u110 u111 u112 u113 u114 u115 u116 u117 u118 u119 u120 u121 u122 u123 u124 u125 u126 u127 u128 u129 u130 u131 u132 u133 u134 u135 u136 u137 u138 u139 u140 u141 u142 u143 u144 u145 u146 u147 u148 u149 u150 u151 u152 u153 u154 u155 u156 u157 u158 u159 u160 u161 u162 u163 u164 u165 u166 u167 u168 u169 u170 u171 u172 u173 u174 u175 u176 u177 u178 u179 u180 u181 u182 u183 u184 u185 u186 u187 u188 u189 u190 u191 u192 u193 u194 u195 u196 u197 u198 u199 u200 u201 u202 u203 u204 u205 u206 u207 u208 u209 u210 u211 u212 u213 u214 u215 u216 u217 u218 u219 u220 u221 u222 u223 u224 u225 u226 u227 u228 u229 u230 u231 u232 u233 u234 u235 u236 u237 u238 u239 u240 u241 u242 u243 u244 u245 u246 u247 u248 u249 u250 u251 u252 u253 u254 u255 u256 u257 u258 u259 u260 u261 u262 u263 u264 u265 u266 u267 u268 u269 u270 u271 u272 u273 u274 u275 u276 u277 u278 u279 u280 u281 u282 u283 u284 u285 u286 u287 u288 u289 u290 u291 u292 u293 u294 u295 u296 u297 u298 u299 u300 u301 u302 u303 u304 u305 u306 u307 u308 u309 u310 u311 u312 u313 u314 u315 u316 u317 u318 u319 u320 u321 u322 u323 u324 u325 u326 u327 u328 u329 u330 u331 u332 u333 u334 u335 u336 u337 u338 u339 u340 u341 u342 u343 u344 u345 u346 u347 u348 u349 u350 u351 u352 u353 u354 u355 J HJ HP
  exact hP2.out⟩
end Go.Proofs.YtmcekhgmmocajaaGreatDoor
namespace Go.Proofs.YtmcekhgmmocajaaGreatDoor
open Go Go.RowKit Me

/-- Lists of which the first k are marked. -/
structure RgP (cs : Nat → List Value) (M B k : Nat) (J : List Rg) : Prop where
  len : J.length = M
  al : ∀ i x, J[i]? = some x → x.n ≤ B ∧ (i < k → x.xs = reps (cs i) x.n)
variable {cs : Nat → List Value} {M B k : Nat} {J : List Rg}
theorem RgP.start (h : RgK M B J) : RgP cs M B 0 J := ⟨h.len, fun i x hx => ⟨h.al x (List.mem_of_getElem? hx), fun h => by omega⟩⟩
theorem RgP.done (h : RgP cs M B M J) : RgM cs M B J := ⟨h.len, fun i x hx => ⟨(h.al i x hx).1, (h.al i x hx).2 (by have := (List.getElem?_eq_some_iff.1 hx).1; rw [h.len] at this; exact this)⟩⟩
theorem RgP.set {x : Rg} (h : RgP cs M B k J) (hx : x.n ≤ B) : RgP cs M B k (J.set k x) := ⟨by rw [List.length_set]; exact h.len, fun i y hy => by
  rw [List.getElem?_set] at hy
  split at hy
  · rename_i e
    subst e
    split at hy
    · cases hy
      exact ⟨hx, fun h => by omega⟩
    · cases hy
  · exact h.al i y hy⟩
theorem RgP.next {x : Rg} (h : RgP cs M B k J) (hx : J[k]? = some x) (he : x.xs = reps (cs k) x.n) : RgP cs M B (k + 1) J := ⟨h.len, fun i y hy => ⟨(h.al i y hy).1, fun hi => by
  by_cases hik : i < k
  · exact (h.al i y hy).2 hik
  · obtain rfl : i = k := by omega
    rw [hx] at hy
    cases hy
    exact he⟩⟩
/-- Marked lists, of which the first k have grown by one. -/
structure RgT (cs : Nat → List Value) (M B k : Nat) (J : List Rg) : Prop where
  len : J.length = M
  al : ∀ i x, J[i]? = some x → x.n ≤ (B + if i < k then 1 else 0) ∧ x.xs = reps (cs i) x.n
theorem RgT.start (h : RgM cs M B J) : RgT cs M B 0 J := ⟨h.len, fun i x hx => ⟨by rw [if_neg (by omega)]; exact (h.al i x hx).1, (h.al i x hx).2⟩⟩
theorem RgT.done (h : RgT cs M B M J) : RgM cs M (B + 1) J := ⟨h.len, fun i x hx => ⟨by
  have := (h.al i x hx).1
  split at this <;> omega, (h.al i x hx).2⟩⟩
theorem RgT.set {x : Rg} (h : RgT cs M B k J) (hx : x.n ≤ B + 1) (he : x.xs = reps (cs k) x.n) : RgT cs M B (k + 1) (J.set k x) := ⟨by rw [List.length_set]; exact h.len, fun i y hy => by
  rw [List.getElem?_set] at hy
  split at hy
  · rename_i e
    subst e
    split at hy
    · cases hy
      exact ⟨by rw [if_pos (by omega)]; exact hx, he⟩
    · cases hy
  · refine ⟨?_, (h.al i y hy).2⟩
    have := (h.al i y hy).1
    split at this
    · rw [if_pos (by omega)]; exact this
    · split <;> omega⟩
/-- The same of the lists of bytes. -/
structure IOk2 (N B k : Nat) (I : List It) : Prop where
  len : I.length = N
  bs : ∀ j x, I[j]? = some x → x.bs.length ≤ B + if j < k then 1 else 0
theorem IOk2.set {N B k : Nat} {I : List It} (h : IOk2 N B k I) {x : It} (hx : x.bs.length ≤ B + 1) : IOk2 N B (k + 1) (I.set k x) :=
  ⟨by rw [List.length_set]; exact h.len, fun j y hy => by
    rw [List.getElem?_set] at hy
    split at hy
    · rename_i e
      subst e
      split at hy
      · cases hy
        rw [if_pos (by omega)]
        exact hx
      · cases hy
    · have := h.bs j y hy
      split at this
      · rw [if_pos (by omega)]; exact this
      · split <;> omega⟩
theorem IOk2.start {N B : Nat} {I : List It} (h : IOk N B I) : IOk2 N B 0 I := ⟨h.len, fun j x hx => by rw [if_neg (by omega)]; exact h.bs x (List.mem_of_getElem? hx)⟩
theorem IOk2.done {N B : Nat} {I : List It} (h : IOk2 N B N I) : IOk N (B + 1) I := ⟨h.len, fun x hx => by
  obtain ⟨j, hj⟩ := List.mem_iff_getElem?.1 hx
  have h1 := h.bs j x hj
  split at h1 <;> omega⟩
theorem IOk.set {N B : Nat} {I : List It} (h : IOk N B I) (i : Nat) {x : It} (hx : x.bs.length ≤ B) : IOk N B (I.set i x) :=
  ⟨by rw [List.length_set]; exact h.len, fun y hy => by rcases List.mem_or_eq_of_mem_set hy with hy | rfl; exact h.bs y hy; exact hx⟩
section
variable {C Z : Pc} {T e : TypeId} {size : Nat} {vs : Value} {w0 w : World} {F : List Nat}
/-- A list's cells have turned; its slice stands. -/
theorem bk_turnG {x : Rg} {n : Nat} {xs : List Value} (hx : J[k]? = some x) (h : Post (OpG T e size C vs J.length (J.map Rg.v) x.v n xs (rgs e size (J.eraseIdx k)) Z) w0 F w) : Post (C.star ((RgJ T e size vs (J.set k ⟨x.v, n, xs⟩)).star Z)) w0 F w := by
  have e1 : (J.map Rg.v).set k x.v = J.map Rg.v := set_self (by rw [List.getElem?_map, hx]; rfl)
  have h2 := bk_shutG (C := C) (T := T) (e := e) (size := size) (vs := vs) (Z := Z) (x := ⟨x.v, n, xs⟩) (i := k) (J := J) (List.getElem?_eq_some_iff.1 hx).1
  simp only at h2
  rw [e1] at h2
  exact h.ent h2
theorem opG_cells {b m n : Nat} {vb vc ve vd v : Value} {cells xs : List Value} {it : Pc} (h : Post (OpG T e size (BkC b vb vc ve vd) vs m cells v n xs it Z) w0 F w) : w.heap[b]? = some (.cells #[vb, vc, ve, vd] 41 (0, 0)) ∧ w.ownsRow 0 T 1 vs m cells ∧ w.ownsRow 0 e size v n xs :=
  ⟨h.blkOf ((Pc.Ent.right _ _).trans ((Pc.Ent.right _ _).trans (Pc.Ent.left _ _))), h.rowAt ((Pc.Ent.right _ _).trans ((Pc.Ent.right _ _).trans ((Pc.Ent.right _ _).trans (Pc.Ent.left _ _)))), h.rowAt (Pc.Ent.left _ _)⟩
end
theorem grow_g {C Z it : Pc} {T : TypeId} {m k g c : Nat} {cells : List Value} {w0 w : World} {F : List Nat} {r : Pc} {x : Value} (h : Post (r.star (it.star (C.star ((Pc.row T 1 (.slice (some ⟨g, 0, none⟩) m c) m cells).star Z)))) w0 F w) :
    Post (r.star (it.star (C.star ((Pc.row T 1 (.slice (some ⟨g, 0, none⟩) m c) m (cells.set k x)).star Z)))) w0 F (w.setCell ⟨g, k, none⟩ x) :=
  ((h.ent (Pc.perm [r, it, C, _, Z] [3, 0, 1, 2, 4] (n := 5) (by decide))).step (row_set1 (i := k) x)).ent (Pc.perm [_, r, it, C, Z] [1, 2, 3, 0, 4] (n := 5) (by decide))
theorem grow_c {Z it : Pc} {T : TypeId} {b m : Nat} {vb vc ve vd v : Value} {cells : List Value} {w0 w : World} {F : List Nat} {r : Pc} (h : Post (r.star (it.star ((BkC b vb vc ve vd).star ((Pc.row T 1 v m cells).star Z)))) w0 F w) : w.heap[b]? = some (.cells #[vb, vc, ve, vd] 41 (0, 0)) ∧ w.ownsRow 0 T 1 v m cells :=
  ⟨h.blkOf ((Pc.Ent.right _ _).trans ((Pc.Ent.right _ _).trans (Pc.Ent.left _ _))), h.rowAt ((Pc.Ent.right _ _).trans ((Pc.Ent.right _ _).trans ((Pc.Ent.right _ _).trans (Pc.Ent.left _ _))))⟩
/-- What the marking loops keep. -/
def RelG (C : Pc) (T e : TypeId) (size : Nat) (vs : Value) (Z : Pc) (cs : Nat → List Value) (w0 : World) (F : List Nat) (M B : Nat) (ix : Value) (wr : World) : Prop :=
  ∃ (k : Nat) (J : List Rg), k ≤ M ∧ ix = .int .i64 (k : Int) ∧ RgP cs M B k J ∧ Post (C.star ((RgJ T e size vs J).star Z)) w0 F wr
def RelG2 (C : Pc) (T e : TypeId) (size : Nat) (vs : Value) (Z : Pc) (cs : Nat → List Value) (w0 : World) (F : List Nat) (M B k m : Nat) (ix : Value) (wr : World) : Prop :=
  ∃ (q : Nat) (J : List Rg) (x : Rg), q ≤ m ∧ ix = .int .i64 (q : Int) ∧ RgP cs M B k J ∧ J[k]? = some x ∧ x.n = m ∧ x.xs.take (q * size) = reps (cs k) q ∧ Post (C.star ((RgJ T e size vs J).star Z)) w0 F wr
def RelT (C : Pc) (T e : TypeId) (size : Nat) (vs : Value) (Z : Pc) (cs : Nat → List Value) (w0 : World) (F : List Nat) (M B : Nat) (ix : Value) (wr : World) : Prop :=
  ∃ (k : Nat) (J : List Rg), k ≤ M ∧ ix = .int .i64 (k : Int) ∧ RgT cs M B k J ∧ Post (C.star ((RgJ T e size vs J).star Z)) w0 F wr
end Go.Proofs.YtmcekhgmmocajaaGreatDoor
namespace Go.Proofs.YtmcekhgmmocajaaGreatDoor
open Go Go.RowKit Me

theorem cE_one (k : Nat) : ∀ v ∈ (cE k).toArray.toList, v.oneCell' = true := by
  intro v hv
  simp only [cE, List.mem_cons, List.not_mem_nil, or_false] at hv
  rcases hv with h | h | h | h | h <;> (subst h; rfl)
set_option maxRecDepth 100000 in
set_option maxHeartbeats 40000000 in
theorem own_a : own_s1.P1 := by
  intro w0 w F b i j B I J D R hi hj hB Ab cb Ac cc Ae ce Ad cd N HI hil M HJ hjl Q HD hdl HL w1 H1 J1 K1 hJ1 hK1
  have HZ := Lib.hid (show Post ((BkC b (.slice Ab N cb) (.slice Ac N cc) (.slice Ae M ce) (.slice Ad Q cd)).star ((RgJ 23 47 5 (.slice Ae M ce) J).star ((RbI (.slice Ab N cb) (.slice Ac N cc) I).star ((RgJ 49 54 3 (.slice Ad Q cd) D).star R)))) w0 F w1 from H1.out.ent ((Pc.Ent.refl _).mono (Pc.Ent.swap _ _ _)))
  clear H1
  generalize hZ : (RbI (.slice Ab N cb) (.slice Ac N cc) I).star ((RgJ 49 54 3 (.slice Ad Q cd) D).star R) = Z at HZ
  have HZE := Lib.hid hZ
  clear hZ
  go_wp2_with fail
  go_loopw [4, 5] (fun ix _ wr => RelG (BkC b (.slice Ab N cb) (.slice Ac N cc) (.slice Ae M ce) (.slice Ad Q cd)) 23 47 5 (.slice Ae M ce) Z cE w0 F M B ix wr) (fun ix _ _ => M - (intOf ix).toNat)
  case atStart => exact ⟨0, J, by omega, rfl, RgP.start HJ.out, HZ.out⟩
  case round =>
    clear HZ HJ J
    obtain ⟨k, J, hk, rfl, hj2, hp⟩ := hrel
    have HP := Lib.hid hp
    have HJ := Lib.hid hj2
    obtain ⟨hb, h1⟩ := bk_cellsG hp
    obtain ⟨c0, c1, c2, c3, -, -, -, -⟩ := bcell4 hb
    rcases Nat.lt_or_ge k M with hlt | hge
    · obtain ⟨x, hx⟩ : ∃ x, J[k]? = some x := ⟨_, List.getElem?_eq_getElem (by rw [hj2.len]; exact hlt)⟩
      have HX := Lib.hid hx
      have hxb := (hj2.al k x hx).1
      clear hp hb h1 hx hj2
      go_wp2_with fail
      clear c0 c1 c2 c3
      go_loopw [5] (fun ix wr => RelG2 (BkC b (.slice Ab N cb) (.slice Ac N cc) (.slice Ae M ce) (.slice Ad Q cd)) 23 47 5 (.slice Ae M ce) Z cE w0 F M B k x.n ix wr) (fun ix _ => x.n - (intOf ix).toNat)
      case atStart => exact ⟨0, J, x, by omega, rfl, HJ.out, HX.out, rfl, by simp [reps], HP.out⟩
      case round =>
        clear HJ HX HP J
        obtain ⟨q, J, y, hq, rfl, hj3, hy, hym, htk, hp⟩ := hrel
        have HJ := Lib.hid hj3
        have HY := Lib.hid hy
        have HYM := Lib.hid hym
        have HTK := Lib.hid htk
        have hpo := hp.ent (bk_openG hy)
        have hlJ := hj3.len
        rw [hlJ] at hpo
        have HQ := Lib.hid hpo
        obtain ⟨hb, h1, r1⟩ := opG_cells hpo
        obtain ⟨c0, c1, c2, c3, -, -, -, -⟩ := bcell4 hb
        obtain ⟨g1, q1, e1, d1, -⟩ := row_cell h1 (i := k) (x := y.v) (by rw [List.getElem?_map, hy]; rfl)
        injection e1 with e1 _ e1c
        subst e1
        subst e1c
        have HP := Lib.hid hp
        have HLJ := Lib.hid hlJ
        obtain ⟨yv, yn, yxs⟩ := y
        simp only at r1 d1 hym HQ HTK
        have hlx := r1.1
        have HLX := Lib.hid hlx
        obtain ⟨Av, cv, rfl⟩ := own_ctor r1
        generalize x.n = m at *
        subst hym
        rcases Nat.lt_or_ge q yn with hlt2 | hge2
        · obtain ⟨gv, qv, e2⟩ : ∃ g c, Value.slice Av yn cv = .slice (some ⟨g, 0, none⟩) yn c := by
            rcases ownsRow_form r1 with ⟨-, h0, -⟩ | ⟨g, c, h0, -⟩
            · omega
            · exact ⟨g, c, h0⟩
          injection e2 with e2 _ e2c
          subst e2
          subst e2c
          obtain ⟨old, hold, holds⟩ := HQ.out.ownAt (e := 47) (size := 5) (g := gv) (n := yn) (c := cv) (xs := yxs) (Pc.Ent.left _ _)
          have HOLD := Lib.hid hold
          have s1 : ((k : Int) % 4294967296) = (k : Int) := by omega
          have hst := HQ.out.step (row_spl hold (q * 5) (cE k) (by rw [show (cE k).length = 5 from rfl]; omega))
          have hst2 := bk_turnG (x := ⟨.slice (some ⟨gv, 0, none⟩) yn cv, yn, yxs⟩) (n := yn) (xs := spl yxs (q * 5) (cE k)) HY.out (by rw [HLJ.out]; exact hst)
          have HR : Hid (RelG2 (BkC b (.slice Ab N cb) (.slice Ac N cc) (.slice (some ⟨g1, 0, none⟩) M ce) (.slice Ad Q cd)) 23 47 5 (.slice (some ⟨g1, 0, none⟩) M ce) Z cE w0 F M B k yn (.int .i64 ((q : Int) + 1)) (wr.setRow gv (spl old.toList (q * 5) (cE k)).toArray)) := Lib.hid
            ⟨q + 1, J.set k ⟨.slice (some ⟨gv, 0, none⟩) yn cv, yn, spl yxs (q * 5) (cE k)⟩, ⟨.slice (some ⟨gv, 0, none⟩) yn cv, yn, spl yxs (q * 5) (cE k)⟩, by omega, rfl, HJ.out.set (HJ.out.al k _ HY.out).1, List.getElem?_set_self (by rw [HLJ.out]; exact hlt), rfl, spl_reps (cs := cE k) HTK.out HLX.out hlt2, hst2⟩
          clear hp hpo hb h1 r1 hy hj3 hold htk hlJ hlx hst hst2
          go_wp2_with (refine wpList_store_rowmid rfl 47 _ _ rfl gv (q * 5) (cE k).toArray rfl rfl 47 old HOLD.out info38t (by rw [show (cE k).toArray.size = 5 from rfl]; omega) (cE_one k) ?_)
          exact ⟨HR.out, by simp only [intOf]; omega⟩
        · obtain rfl : q = yn := by omega
          have HR : Hid (RelG (BkC b (.slice Ab N cb) (.slice Ac N cc) (.slice (some ⟨g1, 0, none⟩) M ce) (.slice Ad Q cd)) 23 47 5 (.slice (some ⟨g1, 0, none⟩) M ce) Z cE w0 F M B (.int .i64 ((k : Int) + 1)) wr) := Lib.hid ⟨k + 1, J, by omega, rfl, HJ.out.next HY.out (by rw [← HTK.out, List.take_of_length_le (by rw [HLX.out]; exact Nat.le_refl _)]), HP.out⟩
          clear hp hpo hb h1 r1 hy hj3 htk hlJ hlx
          go_wp2_with fail
          exact ⟨HR.out, by simp only [intOf]; omega⟩
    · obtain rfl : k = M := by omega
      have HR : Hid (∃ J, RgM cE k B J ∧ Post (Bk9 b Ab N cb Ac cc Ae k ce Ad Q cd I J D R) w0 F wr) := Lib.hid ⟨J, hj2.done, by rw [← HZE.out] at hp; exact hp.ent ((Pc.Ent.refl _).mono (Pc.Ent.swap _ _ _))⟩
      clear hp hb h1 hj2
      go_wp2_with fail
      go_meet
      case rel => exact HR.out
end Go.Proofs.YtmcekhgmmocajaaGreatDoor
