/- The reference's get and counted. | The reference's entry. -/
import Derived.Test.YtmcekhgmmocajaaGreatDoorEo
import Derived.Test.YtmcekhgmmocajaaGreatDoorSb
namespace Go.Proofs.YtmcekhgmmocajaaGreatDoor
open Go.RowKit Me

/-- A number as so many bytes at a place, the lowest first. -/
def getN (b : List UInt8) (a : Nat) : Nat → Nat
  | 0 => 0
  | k + 1 => (b.getD a 0).toNat + 256 * getN b (a + 1) k
theorem getN_lt (b : List UInt8) : ∀ (k a : Nat), getN b a k < 256 ^ k
  | 0, a => by simp [getN]
  | k + 1, a => by
    have h1 := getN_lt b k (a + 1)
    have h2 := (b.getD a 0).toNat_lt
    show (b.getD a 0).toNat + 256 * getN b (a + 1) k < 256 ^ (k + 1)
    rw [Nat.pow_succ]
    omega
def RelGt (w : World) (b : List UInt8) (a wd : Nat) (n i : Value) (wr : World) : Prop :=
  ∃ k : Nat, k ≤ wd ∧ ((k = 0 ∧ i = .int .i64 (-1)) ∨ ∃ j, k = j + 1 ∧ i = .int .i64 (j : Int)) ∧ n = .int .i64 ((getN b (a + k) (wd - k) : Nat) : Int) ∧ wr = w
set_option maxRecDepth 100000 in
set_option maxHeartbeats 2000000 in
theorem get_any {w : World} (b : List UInt8) {v : Value} (h : Rd w v (b.map byteV)) (a wd : Nat) (h1 : a + wd ≤ b.length) (h2 : wd ≤ 4) (h3 : 1 ≤ wd) :
    Calls Tryz.prog 103 #[v, .int .i64 (a : Int), .int .i64 (wd : Int)] w fun x w' => x = .returned (.int .i64 ((getN b a wd : Nat) : Int)) ∧ w' = w := by
  have H := Lib.hid h
  obtain ⟨A, c, rfl, k1, k2, -⟩ := h
  rw [List.length_map] at *
  have hbl : b.length ≤ 9223372036854775807 := by unfold maxLen at k2; omega
  clear k1 k2
  go_enter Tryz.func103, Tryz.ntmps103
  go_wp2_with fail
  go_loopw [7, 8] (fun n i wr => RelGt w b a wd n i wr) (fun _ i _ => (intOf i + 1).toNat)
  case atStart =>
    refine ⟨wd, Nat.le_refl _, Or.inr ⟨wd - 1, by omega, ?_⟩, ?_, rfl⟩
    · congr 1
      omega
    · rw [Nat.sub_self]
      rfl
  case round =>
    obtain ⟨k, hk, hc, rfl, rfl⟩ := hrel
    rcases hc with ⟨rfl, rfl⟩ | ⟨j, rfl, rfl⟩
    · go_wp2_with fail
      go_ret
      exact ⟨rfl, rfl⟩
    · obtain ⟨x, hx⟩ : ∃ x, b[a + j]? = some x := ⟨_, List.getElem?_eq_getElem (by omega)⟩
      obtain ⟨A', c', e1, -, -, h5⟩ := H.out
      obtain ⟨rfl, -, -⟩ := Value.slice.inj e1
      obtain ⟨g, off, rfl, c1⟩ := h5 (a + j) (byteV x) (by rw [List.getElem?_map, hx]; rfl)
      have hn := getN_lt b (wd - (j + 1)) (a + (j + 1))
      have hp : 256 ^ (wd - (j + 1)) ≤ 256 ^ 3 := Nat.pow_le_pow_right (by decide) (by omega)
      have hn2 : getN b (a + (j + 1)) (wd - (j + 1)) < 16777216 := Nat.lt_of_lt_of_le hn hp
      have HS : Hid (getN b (a + j) (wd - j) = x.toNat + 256 * getN b (a + (j + 1)) (wd - (j + 1))) := Lib.hid (by
        rw [show wd - j = (wd - (j + 1)) + 1 by omega]
        show (b.getD (a + j) 0).toNat + 256 * getN b (a + j + 1) (wd - (j + 1)) = _
        rw [List.getD_eq_getElem?_getD, hx]
        rfl)
      have hxl := x.toNat_lt
      unfold byteV at c1
      clear e1 h5 hx hn hp
      generalize getN b (a + (j + 1)) (wd - (j + 1)) = n at *
      generalize x.toNat = y at *
      go_wp2_with fail
      have hs := HS.out
      refine ⟨⟨j, by omega, ?_, ?_, rfl⟩, by simp only [intOf]; omega⟩
      · rcases j with _ | j
        · exact Or.inl ⟨rfl, rfl⟩
        · exact Or.inr ⟨j, rfl, by congr 1; omega⟩
      · rw [hs]
        congr 1
        omega
/-- What stands behind a count of so many bytes, and the place behind. -/
def countedP (b : List UInt8) (a : Int) (wd : Nat) : Option (List UInt8 × Nat) :=
  if a < 0 ∨ b.length < a.toNat + wd then none
  else if b.length - (a.toNat + wd) < getN b a.toNat wd then none
  else some ((b.drop (a.toNat + wd)).take (getN b a.toNat wd), a.toNat + wd + getN b a.toNat wd)
def CtPost (w : World) (r : Option (List UInt8 × Nat)) (x : Ending) (w' : World) : Prop :=
  match r with
  | none => x = .returned (.tuple #[.slice none 0 0, .int .i64 (-1)]) ∧ Mods [] w w'
  | some (l, n) => ∃ v, x = .returned (.tuple #[v, .int .i64 (n : Int)]) ∧ w'.ownsRow w.heap.size 5 1 v l.length (l.map byteV) ∧ Mods [] w w'
theorem rd_sub {w : World} {A : Option Addr} {c : Nat} {b : List UInt8} (h : Rd w (.slice A b.length c) (b.map byteV)) (i n : Nat) (hi : i + n ≤ b.length) :
    Rd w (.slice (A.map fun x => { block := x.block, off := x.off + i }) n (c - i)) (((b.drop i).take n).map byteV) := by
  obtain ⟨A', c', e, k1, k2, k3⟩ := h
  obtain ⟨rfl, -, rfl⟩ := Value.slice.inj e
  rw [List.length_map] at k1
  refine ⟨_, c - i, by rw [List.length_map, List.length_take, List.length_drop, Nat.min_eq_left (by omega)], by rw [List.length_map, List.length_take, List.length_drop]; omega, by omega, fun q u hu => ?_⟩
  have hq : q < n := by
    have := (List.getElem?_eq_some_iff.1 hu).1
    rw [List.length_map, List.length_take] at this
    omega
  rw [List.getElem?_map, List.getElem?_take, if_pos hq, List.getElem?_drop] at hu
  obtain ⟨g, off, rfl, hc⟩ := k3 (i + q) u (by rw [List.getElem?_map]; exact hu)
  exact ⟨g, off + i, rfl, by rw [show off + i + q = off + (i + q) by omega]; exact hc⟩
set_option maxHeartbeats 2000000 in
set_option maxRecDepth 100000 in
theorem rcounted_any {w : World} (b : List UInt8) {v : Value} (h : Rd w v (b.map byteV)) (hb : b.length ≤ 100000000) (a : Int) (ha : -1 ≤ a ∧ a ≤ 1000000000) (wd : Nat) (h2 : wd ≤ 4) (h3 : 1 ≤ wd) :
    Calls Tryz.prog 117 #[v, .int .i64 a, .int .i64 (wd : Int)] w (CtPost w (countedP b a wd)) := by
  have H := Lib.hid h
  obtain ⟨i5, hi5, hy0, hy1, hy2⟩ := info_parts info5
  have HQ := Lib.hid (show countedP b a wd = if a < 0 ∨ b.length < a.toNat + wd then none
    else if b.length - (a.toNat + wd) < getN b a.toNat wd then none
    else some ((b.drop (a.toNat + wd)).take (getN b a.toNat wd), a.toNat + wd + getN b a.toNat wd) from rfl)
  obtain ⟨A, c, rfl, -⟩ := h
  rw [List.length_map] at *
  go_enter Tryz.func117, Tryz.ntmps117
  by_cases hneg : a < 0
  · rw [HQ.out, if_pos (Or.inl hneg)]
    go_wp2_with fail
    go_ret2
    exact ⟨rfl, Mods.refl _ _⟩
  have hneg2 : ¬ a < 0 := hneg
  obtain ⟨q, rfl⟩ : ∃ q : Nat, a = (q : Int) := ⟨a.toNat, by omega⟩
  rw [Int.toNat_natCast] at HQ
  by_cases hlong : b.length < q + wd
  · have hl2 : (b.length : Int) < (q : Int) + (wd : Int) := by omega
    rw [HQ.out, if_pos (Or.inr hlong)]
    go_wp2_with fail
    go_ret2
    exact ⟨rfl, Mods.refl _ _⟩
  have hl2 : ¬ (b.length : Int) < (q : Int) + (wd : Int) := by omega
  have HG := Lib.hid (get_any b H.out q wd (by omega) h2 h3)
  have hn := getN_lt b wd q
  have hp : 256 ^ wd ≤ 256 ^ 4 := Nat.pow_le_pow_right (by decide) h2
  have hn2 : getN b q wd < 4294967296 := Nat.lt_of_lt_of_le hn hp
  clear hn hp
  generalize getN b q wd = n at *
  go_wp2_with fail
  refine HG.out.mono ?_
  rintro x w1 ⟨rfl, rfl⟩
  by_cases hs : b.length - (q + wd) < n
  · have hs2 : (b.length : Int) - ((q : Int) + (wd : Int)) < (n : Int) := by omega
    go_wp2_with fail
    go_ret2
    rw [HQ.out, if_neg (by omega), if_pos hs]
    exact ⟨rfl, Mods.refl _ _⟩
  have hs2 : ¬ (b.length : Int) - ((q : Int) + (wd : Int)) < (n : Int) := by omega
  have hcc := rd_cap H.out
  obtain ⟨g, off, rfl⟩ : ∃ g off, A = some ⟨g, off, none⟩ := by
    obtain ⟨A', c', e1, -, -, h5⟩ := H.out
    obtain ⟨rfl, -, -⟩ := Value.slice.inj e1
    obtain ⟨x, hx⟩ : ∃ x, b[0]? = some x := ⟨_, List.getElem?_eq_getElem (by omega)⟩
    obtain ⟨g, off, e2, -⟩ := h5 0 (byteV x) (by rw [List.getElem?_map, hx]; rfl)
    exact ⟨g, off, e2⟩
  have hlen : ((b.drop (q + wd)).take n).length = n := by rw [List.length_take, List.length_drop]; omega
  have HSB := Lib.hid (rd_sub H.out (q + wd) n (by omega))
  have HV : Hid (countedP b (q : Int) wd = some ((b.drop (q + wd)).take n, q + wd + n)) := Lib.hid (by rw [HQ.out, if_neg (by omega), if_neg hs])
  by_cases hcq : c = q + wd
  · obtain rfl : n = 0 := by omega
    subst hcq
    go_wp2_with fail
    go_ret2
    rw [HV.out]
    exact ⟨_, rfl, World.ownsRow_nil _ _ _ _, Mods.refl _ _⟩
  · go_wp2_with (at_builtin; go_must (refine wpList_app _ rfl _ _ 22 22 rfl w1.heap.size 5 i5 (.int .u8 0) 1 1 Tryz.underlying22 hi5 hy0 hy1 hy2 rfl (.slice none 0 0) 0 [] rfl (World.ownsRow_nil _ _ _ _) _ n (((b.drop (q + wd)).take n).map byteV) rfl ?c1 ?c2 ?c3 ?c4 ?_))
    case c1 =>
      have := HSB.out.src Tryz.underlying22 (bytes_one _)
      rw [List.length_map, hlen] at this
      have e : q + wd + n - (q + wd) = n := by omega
      show Src Tryz.prog 1 22 (.slice (some ⟨g, off + (q + wd), none⟩) (q + wd + n - (q + wd)) (c - (q + wd))) n _ w1
      rw [e]
      exact this
    case c2 => unfold maxLen; omega
    case c3 => omega
    case c4 => exact Nat.le_refl _
    intro v' w2 hown hgrow hat
    have HM2 := Lib.hid ((Mods.refl [] w1).grown hgrow (fun x hx => by cases hx))
    have HO2 := Lib.hid hown
    obtain ⟨A2, c2, rfl⟩ := own_ctor hown
    clear hown hgrow hat
    go_wp2_with fail
    go_ret2
    rw [HV.out]
    refine ⟨_, rfl, ?_, HM2.out⟩
    rw [hlen, List.map_take, List.map_drop]
    exact HO2.out
end Go.Proofs.YtmcekhgmmocajaaGreatDoor
namespace Go.Proofs.YtmcekhgmmocajaaGreatDoor
open Go.RowKit Me

/-- The entry at a place, and the place behind. -/
def entryP (b : List UInt8) (a : Nat) : Option (EntP × Nat) :=
  match countedP b a 2 with
  | none => none
  | some (p, n) =>
    if b.length < n + 8 then none
    else match countedP b ((n + 8 : Nat) : Int) 2 with
      | none => none
      | some (g, m) => match countedP b (m : Int) 4 with
        | none => none
        | some (d, q) => some (⟨⟨p.toArray⟩, getN b n 4, getN b (n + 4) 4, ⟨g.toArray⟩, d⟩, q)
def EyPost (w : World) (r : Option (EntP × Nat)) (x : Ending) (w' : World) : Prop :=
  match r with
  | none => ∃ (e : EntP) (A : Option Addr) (n c : Nat), x = .returned (.tuple #[entV e (.slice A n c), .int .i64 (-1)]) ∧ Mods [] w w'
  | some (e, q) => ∃ vd, x = .returned (.tuple #[entV e vd, .int .i64 (q : Int)]) ∧ w'.ownsRow w.heap.size 5 1 vd e.data.length (e.data.map byteV) ∧ Mods [] w w'
abbrev zeroE : Array Value := #[.string ⟨#[]⟩, .int .u32 0, .int .u32 0, .string ⟨#[]⟩, .slice none 0 0]
theorem counted_le {b : List UInt8} {a : Int} {wd : Nat} {l : List UInt8} {n : Nat} (h : countedP b a wd = some (l, n)) : n ≤ b.length := by
  unfold countedP at h
  split at h
  · cases h
  · split at h
    · cases h
    · simp only [Option.some.injEq, Prod.mk.injEq] at h
      omega
theorem mods_setRow {w0 w : World} (h : Mods [] w0 w) {g : Nat} (hg : w0.heap.size ≤ g) (cs : Array Value) : Mods [] w0 (w.setRow g cs) :=
  ⟨h.os, h.tape, h.output, by rw [size_setRow]; exact h.size, fun k hk hn => (setRow_other w g k cs (by omega)).trans (h.block k hk hn)⟩
theorem cells5 {w : World} {g : Nat} {x0 x1 x2 x3 x4 : Value} {t : TypeId} {fr : Nat × Nat} (h : w.heap[g]? = some (.cells #[x0, x1, x2, x3, x4] t fr)) :
    w.cell? ⟨g, 0, none⟩ = some x0 ∧ w.cell? ⟨g, 1, none⟩ = some x1 ∧ w.cell? ⟨g, 2, none⟩ = some x2 ∧ w.cell? ⟨g, 3, none⟩ = some x3 ∧ w.cell? ⟨g, 4, none⟩ = some x4 := by
  refine ⟨?_, ?_, ?_, ?_, ?_⟩ <;> rw [cell_of_row _ _ _ _ _ _ h] <;> rfl
theorem one0 : zeroE.all (·.oneCell') = true := by simp [zeroE, Value.oneCell']
/-- The two boxes of entry: the result's, as it was made; the entry's. -/
structure Bx (w wk : World) (cs : Array Value) : Prop where
  m : Mods [] w wk
  x4 : wk.heap[w.heap.size]? = some (.cells zeroE 47 (0, 0))
  x6 : wk.heap[w.heap.size + 1]? = some (.cells cs 47 (0, 0))
theorem Bx.mods {w wk wl : World} {cs : Array Value} (h : Bx w wk cs) (hm : Mods [] wk wl) : Bx w wl cs := ⟨h.m.trans hm (by simp), hm.heap h.x4 (by simp), hm.heap h.x6 (by simp)⟩
theorem Bx.set {w wk : World} {cs : Array Value} (h : Bx w wk cs) (i : Nat) (v : Value) : Bx w (wk.setCell ⟨w.heap.size + 1, i, none⟩ v) (cs.setIfInBounds i v) :=
  ⟨h.m.setCell (Or.inr (by show w.heap.size ≤ w.heap.size + 1; omega)) v, (Below.heap_setCell _ _ _ _ (by show w.heap.size ≠ w.heap.size + 1; omega)).trans h.x4, heap_setCell_same _ _ _ _ _ _ h.x6⟩
theorem one5 (s g : ByteArray) (m t : Int) (A : Option Addr) (n c : Nat) : (#[.string s, .int .u32 m, .int .u32 t, .string g, .slice A n c] : Array Value).all (·.oneCell') = true := by simp [Value.oneCell']
set_option maxHeartbeats 1000000 in
set_option maxRecDepth 100000 in
theorem rentry_any {w : World} (b : List UInt8) {v : Value} (h : Rd w v (b.map byteV)) (hb : b.length ≤ 100000000) (a : Nat) (ha : a ≤ 100000000) :
    Calls Tryz.prog 104 #[v, .int .i64 (a : Int)] w (EyPost w (entryP b a)) := by
  have H := Lib.hid h
  have HQ := Lib.hid (show entryP b a = (match countedP b a 2 with
    | none => none
    | some (p, n) =>
      if b.length < n + 8 then none
      else match countedP b ((n + 8 : Nat) : Int) 2 with
        | none => none
        | some (g, m) => match countedP b (m : Int) 4 with
          | none => none
          | some (d, q) => some (⟨⟨p.toArray⟩, getN b n 4, getN b (n + 4) 4, ⟨g.toArray⟩, d⟩, q)) from rfl)
  obtain ⟨A, c, rfl, -⟩ := h
  rw [List.length_map] at *
  have hX6 := heap_alloc_new (w.alloc (.cells zeroE 47)) (.cells zeroE 47)
  rw [World.size_alloc] at hX6
  have hX4 := (Go.heap_alloc_old (w.alloc (.cells zeroE 47)) (.cells zeroE 47) (r := w.heap.size) (by simp)).trans (heap_alloc_new w _)
  have HX6 := Lib.hid hX6
  have HX4 := Lib.hid hX4
  have HM := Lib.hid (((Mods.refl [] w).alloc (.cells zeroE 47)).alloc (.cells zeroE 47))
  clear hX6 hX4
  go_enter Tryz.func104, Tryz.ntmps104
  go_wp2_with fail
  generalize (w.alloc (.cells zeroE 47)).alloc (.cells zeroE 47) = w2 at *
  have HC := Lib.hid (rcounted_any b (H.out.mods HM.out (by simp)) hb (a : Int) (by omega) 2 (by decide) (by decide))
  refine HC.out.mono ?_
  intro x w3 hp
  cases h1 : countedP b (a : Int) 2 with
  | none =>
    rw [h1] at hp HQ
    obtain ⟨rfl, hm⟩ := hp
    have HX43 := Lib.hid (hm.heap HX4.out (by simp))
    have HX63 := Lib.hid (hm.heap HX6.out (by simp))
    have HM3 := Lib.hid (HM.out.trans hm (by simp))
    clear hm HC HX4 HX6 HM h1
    go_wp2_with (first | (refine wpList_load_row rfl 47 _ rfl (w.heap.size + 1) rfl 47 zeroE (0, 0) _ HX63.out Tryz.underlying47 rfl info38 ?_) | (refine wpList_store_row rfl 47 _ _ rfl w.heap.size zeroE rfl rfl 47 zeroE HX43.out info38t rfl one0 ?_))
    have hg := setRow_heap w3 w.heap.size zeroE zeroE 47 (0, 0) HX43.out
    obtain ⟨d0, d1, d2, d3, d4⟩ := cells5 hg
    refine bodyPost_ret (v := .tuple #[.agg zeroE, .int .i64 (-1)]) (by simp [results, Tryz.results104, go_sem, d0, d1, d2, d3, d4]) rfl ?_
    rw [HQ.out]
    exact ⟨⟨⟨#[]⟩, 0, 0, ⟨#[]⟩, []⟩, none, 0, 0, rfl, mods_setRow HM3.out (Nat.le_refl _) _⟩
  | some r =>
    obtain ⟨p, n⟩ := r
    rw [h1] at hp HQ
    obtain ⟨vp, rfl, ho, hm⟩ := hp
    have hnl := counted_le h1
    have HB0 : Hid (Bx w w3 zeroE) := Lib.hid (Bx.mods ⟨HM.out, HX4.out, HX6.out⟩ hm)
    have KP := conv_rd (Rd.of_own ho)
    obtain ⟨Ap, cp, rfl⟩ := own_ctor ho
    clear hm HC HX4 HX6 HM h1 ho
    by_cases hl : b.length < n + 8
    · have hl2 : (b.length : Int) < (n : Int) + 8 := by omega
      simp only [if_pos hl] at HQ
      go_wp2_with (first | (refine wpList_load_row rfl 47 _ rfl (w.heap.size + 1) rfl 47 zeroE (0, 0) _ HB0.out.x6 Tryz.underlying47 rfl info38 ?_) | (refine wpList_store_row rfl 47 _ _ rfl w.heap.size zeroE rfl rfl 47 zeroE HB0.out.x4 info38t rfl one0 ?_))
      have hg := setRow_heap w3 w.heap.size zeroE zeroE 47 (0, 0) HB0.out.x4
      obtain ⟨d0, d1, d2, d3, d4⟩ := cells5 hg
      refine bodyPost_ret (v := .tuple #[.agg zeroE, .int .i64 (-1)]) (by simp [results, Tryz.results104, go_sem, d0, d1, d2, d3, d4]) rfl ?_
      rw [HQ.out]
      exact ⟨⟨⟨#[]⟩, 0, 0, ⟨#[]⟩, []⟩, none, 0, 0, rfl, mods_setRow HB0.out.m (Nat.le_refl _) _⟩
    have hl2 : ¬ (b.length : Int) < (n : Int) + 8 := by omega
    simp only [if_neg hl] at HQ
    have e0 : w3.cell? ⟨w.heap.size + 1, 0, none⟩ = some (.string ⟨#[]⟩) := by rw [cell_of_row _ _ _ _ _ _ HB0.out.x6]; rfl
    have f0 : w3.frozen? ⟨w.heap.size + 1, 0, none⟩ = false := frozen_of_row _ _ _ _ _ HB0.out.x6
    have HB1 := Lib.hid (HB0.out.set 0 (.string ⟨p.toArray⟩))
    have HG1 := Lib.hid (get_any b (H.out.mods HB1.out.m (by simp)) n 4 (by omega) (by decide) (by decide))
    have hm1 : getN b n 4 < 4294967296 := getN_lt b 4 n
    have hm2 : getN b (n + 4) 4 < 4294967296 := getN_lt b 4 (n + 4)
    have HG2 := Lib.hid (fun w' (hw : Mods [] w w') => get_any b (H.out.mods hw (by simp)) (n + 4) 4 (by omega) (by decide) (by decide))
    generalize getN b n 4 = q1 at *
    generalize getN b (n + 4) 4 = q2 at *
    go_wp2_with fail
    generalize w3.setCell ⟨w.heap.size + 1, 0, none⟩ (.string ⟨p.toArray⟩) = w4 at *
    refine HG1.out.mono ?_
    rintro x w5 ⟨rfl, rfl⟩
    have e1 : w5.cell? ⟨w.heap.size + 1, 1, none⟩ = some (.int .u32 0) := by rw [cell_of_row _ _ _ _ _ _ HB1.out.x6]; rfl
    have f1 : w5.frozen? ⟨w.heap.size + 1, 1, none⟩ = false := frozen_of_row _ _ _ _ _ HB1.out.x6
    have HB2 : Hid (Bx w (w5.setCell ⟨w.heap.size + 1, 1, none⟩ (.int .u32 (q1 : Int))) #[.string ⟨p.toArray⟩, .int .u32 (q1 : Int), .int .u32 0, .string ⟨#[]⟩, .slice none 0 0]) := Lib.hid (HB1.out.set 1 (.int .u32 (q1 : Int)))
    clear HG1 e0 f0 KP HB0
    go_wp2_with fail
    generalize w5.setCell ⟨w.heap.size + 1, 1, none⟩ (.int .u32 (q1 : Int)) = w6 at *
    refine (HG2.out w6 HB2.out.m).mono ?_
    rintro x w7 ⟨rfl, rfl⟩
    have e2 : w7.cell? ⟨w.heap.size + 1, 2, none⟩ = some (.int .u32 0) := by rw [cell_of_row _ _ _ _ _ _ HB2.out.x6]; rfl
    have f2 : w7.frozen? ⟨w.heap.size + 1, 2, none⟩ = false := frozen_of_row _ _ _ _ _ HB2.out.x6
    have HB3 : Hid (Bx w (w7.setCell ⟨w.heap.size + 1, 2, none⟩ (.int .u32 (q2 : Int))) #[.string ⟨p.toArray⟩, .int .u32 (q1 : Int), .int .u32 (q2 : Int), .string ⟨#[]⟩, .slice none 0 0]) := Lib.hid (HB2.out.set 2 (.int .u32 (q2 : Int)))
    have HC2 := Lib.hid (rcounted_any b (H.out.mods HB3.out.m (by simp)) hb ((n : Int) + 8) (by omega) 2 (by decide) (by decide))
    have HC3 := Lib.hid (fun w' (hw : Mods [] w w') (z : Int) (hz : -1 ≤ z ∧ z ≤ 1000000000) => rcounted_any b (H.out.mods hw (by simp)) hb z hz 4 (by decide) (by decide))
    rw [show ((n + 8 : Nat) : Int) = (n : Int) + 8 from rfl] at HQ
    clear HG2 e1 f1 HB1 HB2
    go_wp2_with fail
    generalize w7.setCell ⟨w.heap.size + 1, 2, none⟩ (.int .u32 (q2 : Int)) = w8 at *
    refine HC2.out.mono ?_
    intro x w9 hp
    clear HC2 e2 f2
    cases hc2 : countedP b ((n : Int) + 8) 2 with
    | none =>
      rw [hc2] at hp HQ
      simp only at HQ
      obtain ⟨rfl, hm⟩ := hp
      have HB4 := Lib.hid (HB3.out.mods hm)
      have e3 : w9.cell? ⟨w.heap.size + 1, 3, none⟩ = some (.string ⟨#[]⟩) := by rw [cell_of_row _ _ _ _ _ _ HB4.out.x6]; rfl
      have f3 : w9.frozen? ⟨w.heap.size + 1, 3, none⟩ = false := frozen_of_row _ _ _ _ _ HB4.out.x6
      have HB5 : Hid (Bx w (w9.setCell ⟨w.heap.size + 1, 3, none⟩ (.string ⟨#[]⟩)) #[.string ⟨p.toArray⟩, .int .u32 (q1 : Int), .int .u32 (q2 : Int), .string ⟨#[]⟩, .slice none 0 0]) := Lib.hid (HB4.out.set 3 (.string ⟨#[]⟩))
      have KN : (convert 22 9 (.slice none 0 0)).run Tryz.prog w9 = .ok (.string ⟨#[]⟩) w9 := conv_rd (l := []) ⟨none, 0, rfl, Nat.le_refl _, by unfold maxLen; omega, by simp⟩
      clear HB3 HB4 hm hc2
      go_wp2_with fail
      generalize w9.setCell ⟨w.heap.size + 1, 3, none⟩ (.string ⟨#[]⟩) = w10 at *
      refine (HC3.out w10 HB5.out.m (-1) (by omega)).mono ?_
      intro x w11 hp
      rw [show countedP b (-1) 4 = none from if_pos (Or.inl (by decide))] at hp
      obtain ⟨rfl, hm⟩ := hp
      have HB6 := Lib.hid (HB5.out.mods hm)
      have e4 : w11.cell? ⟨w.heap.size + 1, 4, none⟩ = some (.slice none 0 0) := by rw [cell_of_row _ _ _ _ _ _ HB6.out.x6]; rfl
      have f4 : w11.frozen? ⟨w.heap.size + 1, 4, none⟩ = false := frozen_of_row _ _ _ _ _ HB6.out.x6
      have HBF : Hid (Bx w (w11.setCell ⟨w.heap.size + 1, 4, none⟩ (.slice none 0 0)) #[.string ⟨p.toArray⟩, .int .u32 (q1 : Int), .int .u32 (q2 : Int), .string ⟨#[]⟩, .slice none 0 0]) := Lib.hid (HB6.out.set 4 (.slice none 0 0))
      clear HC3 HB5 HB6 hm e3 f3
      go_wp2_with (first | (refine wpList_load_row rfl 47 _ rfl (w.heap.size + 1) rfl 47 #[.string ⟨p.toArray⟩, .int .u32 (q1 : Int), .int .u32 (q2 : Int), .string ⟨#[]⟩, .slice none 0 0] (0, 0) _ HBF.out.x6 Tryz.underlying47 rfl info38 ?_) | (refine wpList_store_row rfl 47 _ _ rfl w.heap.size #[.string ⟨p.toArray⟩, .int .u32 (q1 : Int), .int .u32 (q2 : Int), .string ⟨#[]⟩, .slice none 0 0] rfl rfl 47 zeroE HBF.out.x4 info38t rfl (one5 _ _ _ _ _ _ _) ?_))
      generalize w11.setCell ⟨w.heap.size + 1, 4, none⟩ (.slice none 0 0) = wf at *
      have hg := setRow_heap wf w.heap.size zeroE #[.string ⟨p.toArray⟩, .int .u32 (q1 : Int), .int .u32 (q2 : Int), .string ⟨#[]⟩, .slice none 0 0] 47 (0, 0) HBF.out.x4
      obtain ⟨d0, d1, d2, d3, d4⟩ := cells5 hg
      refine bodyPost_ret (v := .tuple #[.agg #[.string ⟨p.toArray⟩, .int .u32 (q1 : Int), .int .u32 (q2 : Int), .string ⟨#[]⟩, .slice none 0 0], .int .i64 (-1)]) (by simp [results, Tryz.results104, go_sem, d0, d1, d2, d3, d4]) rfl ?_
      rw [HQ.out]
      exact ⟨⟨⟨p.toArray⟩, q1, q2, ⟨#[]⟩, []⟩, none, 0, 0, rfl, mods_setRow HBF.out.m (Nat.le_refl _) _⟩
    | some r =>
      obtain ⟨gd, m⟩ := r
      rw [hc2] at hp HQ
      simp only at HQ
      obtain ⟨vg, rfl, hog, hm⟩ := hp
      have hml := counted_le hc2
      have KG := conv_rd (Rd.of_own hog)
      obtain ⟨Ag, cg, rfl⟩ := own_ctor hog
      have HB4 := Lib.hid (HB3.out.mods hm)
      have e3 : w9.cell? ⟨w.heap.size + 1, 3, none⟩ = some (.string ⟨#[]⟩) := by rw [cell_of_row _ _ _ _ _ _ HB4.out.x6]; rfl
      have f3 : w9.frozen? ⟨w.heap.size + 1, 3, none⟩ = false := frozen_of_row _ _ _ _ _ HB4.out.x6
      have HB5 : Hid (Bx w (w9.setCell ⟨w.heap.size + 1, 3, none⟩ (.string ⟨gd.toArray⟩)) #[.string ⟨p.toArray⟩, .int .u32 (q1 : Int), .int .u32 (q2 : Int), .string ⟨gd.toArray⟩, .slice none 0 0]) := Lib.hid (HB4.out.set 3 (.string ⟨gd.toArray⟩))
      clear HB3 HB4 hm hc2 hog
      go_wp2_with fail
      generalize w9.setCell ⟨w.heap.size + 1, 3, none⟩ (.string ⟨gd.toArray⟩) = w10 at *
      refine (HC3.out w10 HB5.out.m (m : Int) (by omega)).mono ?_
      intro x w11 hp
      cases hc3 : countedP b (m : Int) 4 with
      | none =>
        rw [hc3] at hp HQ
        simp only at HQ
        obtain ⟨rfl, hm⟩ := hp
        have HB6 := Lib.hid (HB5.out.mods hm)
        have e4 : w11.cell? ⟨w.heap.size + 1, 4, none⟩ = some (.slice none 0 0) := by rw [cell_of_row _ _ _ _ _ _ HB6.out.x6]; rfl
        have f4 : w11.frozen? ⟨w.heap.size + 1, 4, none⟩ = false := frozen_of_row _ _ _ _ _ HB6.out.x6
        have HBF : Hid (Bx w (w11.setCell ⟨w.heap.size + 1, 4, none⟩ (.slice none 0 0)) #[.string ⟨p.toArray⟩, .int .u32 (q1 : Int), .int .u32 (q2 : Int), .string ⟨gd.toArray⟩, .slice none 0 0]) := Lib.hid (HB6.out.set 4 (.slice none 0 0))
        clear HC3 HB5 HB6 hm e3 f3 KG hc3
        go_wp2_with (first | (refine wpList_load_row rfl 47 _ rfl (w.heap.size + 1) rfl 47 #[.string ⟨p.toArray⟩, .int .u32 (q1 : Int), .int .u32 (q2 : Int), .string ⟨gd.toArray⟩, .slice none 0 0] (0, 0) _ HBF.out.x6 Tryz.underlying47 rfl info38 ?_) | (refine wpList_store_row rfl 47 _ _ rfl w.heap.size #[.string ⟨p.toArray⟩, .int .u32 (q1 : Int), .int .u32 (q2 : Int), .string ⟨gd.toArray⟩, .slice none 0 0] rfl rfl 47 zeroE HBF.out.x4 info38t rfl (one5 _ _ _ _ _ _ _) ?_))
        generalize w11.setCell ⟨w.heap.size + 1, 4, none⟩ (.slice none 0 0) = wf at *
        have hg := setRow_heap wf w.heap.size zeroE #[.string ⟨p.toArray⟩, .int .u32 (q1 : Int), .int .u32 (q2 : Int), .string ⟨gd.toArray⟩, .slice none 0 0] 47 (0, 0) HBF.out.x4
        obtain ⟨d0, d1, d2, d3, d4⟩ := cells5 hg
        refine bodyPost_ret (v := .tuple #[.agg #[.string ⟨p.toArray⟩, .int .u32 (q1 : Int), .int .u32 (q2 : Int), .string ⟨gd.toArray⟩, .slice none 0 0], .int .i64 (-1)]) (by simp [results, Tryz.results104, go_sem, d0, d1, d2, d3, d4]) rfl ?_
        rw [HQ.out]
        exact ⟨⟨⟨p.toArray⟩, q1, q2, ⟨gd.toArray⟩, []⟩, none, 0, 0, rfl, mods_setRow HBF.out.m (Nat.le_refl _) _⟩
      | some r =>
        obtain ⟨dt, z⟩ := r
        rw [hc3] at hp HQ
        simp only at HQ
        obtain ⟨vd, rfl, hod, hm⟩ := hp
        obtain ⟨Ad, cd, rfl⟩ := own_ctor hod
        have HB6 := Lib.hid (HB5.out.mods hm)
        have HOD := Lib.hid hod
        have hs10 := HB5.out.m.size
        have hlt4 := (Array.getElem?_eq_some_iff.1 HB5.out.x4).1
        have hlt6 := (Array.getElem?_eq_some_iff.1 HB5.out.x6).1
        have e4 : w11.cell? ⟨w.heap.size + 1, 4, none⟩ = some (.slice none 0 0) := by rw [cell_of_row _ _ _ _ _ _ HB6.out.x6]; rfl
        have f4 : w11.frozen? ⟨w.heap.size + 1, 4, none⟩ = false := frozen_of_row _ _ _ _ _ HB6.out.x6
        have HBF : Hid (Bx w (w11.setCell ⟨w.heap.size + 1, 4, none⟩ (.slice Ad dt.length cd)) #[.string ⟨p.toArray⟩, .int .u32 (q1 : Int), .int .u32 (q2 : Int), .string ⟨gd.toArray⟩, .slice Ad dt.length cd]) := Lib.hid (HB6.out.set 4 (.slice Ad dt.length cd))
        have HOF : Hid ((w11.setCell ⟨w.heap.size + 1, 4, none⟩ (.slice Ad dt.length cd)).ownsRow w10.heap.size 5 1 (.slice Ad dt.length cd) dt.length (dt.map byteV)) := Lib.hid (ownsRow_mods hod ((Mods.refl [w.heap.size + 1] w11).setCell (Or.inl (by simp)) _) (fun k hk hm => by have := (hod.lt k hk).1; simp at hm; omega))
        clear HC3 HB5 HB6 hm e3 f3 KG hc3 hod HOD
        go_wp2_with (first | (refine wpList_load_row rfl 47 _ rfl (w.heap.size + 1) rfl 47 #[.string ⟨p.toArray⟩, .int .u32 (q1 : Int), .int .u32 (q2 : Int), .string ⟨gd.toArray⟩, .slice Ad dt.length cd] (0, 0) _ HBF.out.x6 Tryz.underlying47 rfl info38 ?_) | (refine wpList_store_row rfl 47 _ _ rfl w.heap.size #[.string ⟨p.toArray⟩, .int .u32 (q1 : Int), .int .u32 (q2 : Int), .string ⟨gd.toArray⟩, .slice Ad dt.length cd] rfl rfl 47 zeroE HBF.out.x4 info38t rfl (one5 _ _ _ _ _ _ _) ?_))
        generalize w11.setCell ⟨w.heap.size + 1, 4, none⟩ (.slice Ad dt.length cd) = wf at *
        have hg := setRow_heap wf w.heap.size zeroE #[.string ⟨p.toArray⟩, .int .u32 (q1 : Int), .int .u32 (q2 : Int), .string ⟨gd.toArray⟩, .slice Ad dt.length cd] 47 (0, 0) HBF.out.x4
        obtain ⟨d0, d1, d2, d3, d4⟩ := cells5 hg
        refine bodyPost_ret (v := .tuple #[.agg #[.string ⟨p.toArray⟩, .int .u32 (q1 : Int), .int .u32 (q2 : Int), .string ⟨gd.toArray⟩, .slice Ad dt.length cd], .int .i64 (z : Int)]) (by simp [results, Tryz.results104, go_sem, d0, d1, d2, d3, d4]) rfl ?_
        rw [HQ.out]
        refine ⟨_, rfl, ?_, mods_setRow HBF.out.m (Nat.le_refl _) _⟩
        have hmr : Mods [w.heap.size] wf (wf.setRow w.heap.size #[.string ⟨p.toArray⟩, .int .u32 (q1 : Int), .int .u32 (q2 : Int), .string ⟨gd.toArray⟩, .slice Ad dt.length cd]) := ⟨rfl, rfl, rfl, by rw [size_setRow]; exact Nat.le_refl _, fun k hk hn => setRow_other wf _ k _ (by simpa using hn)⟩
        exact ownsRow_base (ownsRow_mods HOF.out hmr (fun k hk hm => by have := (HOF.out.lt k hk).1; simp at hm; omega)) hs10
end Go.Proofs.YtmcekhgmmocajaaGreatDoor
