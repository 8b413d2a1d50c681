/- The walks of NewReader and a reader's Part. -/
import Derived.Test.YtedddekkbgaolaaDoorRr
namespace Go.Proofs.YtedddekkbgaolaaDoor
open Go.RowKit Me

def RSt.new (l : List UInt8) : RSt := ⟨l, 0, 0, 0, 0⟩
theorem plain_own {w : World} {base : Nat} {e : TypeId} {size : Nat} {v : Value} {n : Nat} {xs : List Value} (h : w.ownsRow base e size v n xs) : Plain v := by
  rcases ownsRow_form h with ⟨rfl, _⟩ | ⟨g, c, rfl, _⟩
  · exact Or.inl rfl
  · exact Or.inr ⟨g, 0, n, c, rfl⟩
/-- A new reader in a new block. -/
theorem isR_new (T : TypeId) {w : World} {vb : Value} {S : RSt} (hw : S.Wf) (hb : Rd w vb (S.bytes.map byteV)) (hp : Plain vb) (hl : ∀ k, vb.ownBlock = some k → k < w.heap.size) :
    IsR T (w.alloc (.cells #[vb, .int .i64 (S.place : Int), .int .i64 (S.base : Int), .int .i64 S.err, .int .i64 (S.spot : Int)] T)) w.heap.size S vb :=
  ⟨hw, heap_alloc_new w _, hb.mods (F := []) ((Mods.refl _ _).alloc _) (by simp), fun h => by have := hl _ h; omega, hp⟩

/-- What NewReader leaves. -/
def NewPost (T : TypeId) (w : World) (l : List UInt8) (e : Ending) (w' : World) : Prop :=
  ∃ a vb, e = .returned (.pointer (some ⟨a, 0, none⟩)) ∧ IsR T w' a (RSt.new l) vb ∧ w'.ownsRow w.heap.size 5 1 vb l.length (l.map byteV) ∧ w.heap.size ≤ a ∧ Mods [] w w'

set_option maxRecDepth 100000 in
set_option maxHeartbeats 400000 in
theorem newReader_any {w : World} {vx : Value} (l : List UInt8) (hx : Rd w vx (l.map byteV)) (hl : l.length ≤ 70000000000000) :
    Calls Tryd.prog 35 #[vx] w (NewPost 130 w l) := by
  have HX := Lib.hid hx
  clear hx
  obtain ⟨i0, hi, hz0, hz1, hz2⟩ := info_parts info5
  go_enter Tryd.func35, Tryd.ntmps35
  go_wp2_with (at_builtin; go_must (refine wpList_app _ rfl _ _ 43 43 rfl w.heap.size 5 i0 (.int .u8 0) 1 1 Tryd.underlying43 hi hz0 hz1 hz2 rfl (.slice none 0 0) 0 [] rfl (World.ownsRow_nil _ _ _ _) vx l.length (l.map byteV) rfl ?c1 ?c2 ?c3 ?c4 ?_))
  case c1 =>
    have h := HX.out.src Tryd.underlying43 (bytes_one _)
    rw [List.length_map] at h
    exact h
  case c2 => unfold maxLen; omega
  case c3 => omega
  case c4 => exact Nat.le_refl _
  intro v' w1 hown hgrow hat2
  obtain ⟨A', c', rfl⟩ := own_ctor hown
  have HM := Lib.hid ((Mods.refl [] w).grown hgrow (by simp [Value.ownBlock]))
  have HO := Lib.hid hown
  clear hown hgrow hat2
  have HI := Lib.hid (isR_new 130 (w := w1) (vb := .slice A' l.length c') (S := RSt.new l) ⟨Nat.zero_le _, by show 0 + l.length ≤ _; omega, Nat.zero_le _, by show _ ≤ (0 : Int); omega, by show (0 : Int) ≤ _; omega⟩ (by
    have := Rd.of_own HO.out
    simpa [RSt.new] using this) (plain_own HO.out) (ownsRow_lt HO.out))
  go_wp2_with fail
  go_ret
  refine ⟨w1.heap.size, _, rfl, HI.out, ?_, HM.out.size, HM.out.alloc _⟩
  exact ownsRow_mods (F := []) HO.out ((Mods.refl _ _).alloc _) (by simp)

/-- What Part leaves. -/
def PartPost (T : TypeId) (w : World) (a : Nat) (vb : Value) (r : RSt × RSt) (e : Ending) (w' : World) : Prop :=
  ∃ p vp, e = .returned (.pointer (some ⟨p, 0, none⟩)) ∧ IsR T w' p r.1 vp ∧ w.heap.size ≤ p ∧ (∀ k, vp.ownBlock = some k → vb.ownBlock = some k) ∧ RPost T w a vb r.2 w'

set_option maxRecDepth 100000 in
set_option maxHeartbeats 1000000 in
theorem rpart_none {a : Nat} {S : RSt} {vb : Value} {w : World} (h : IsR 130 w a S vb) (hn : S.counted.1 = none) :
    Calls Tryd.prog 75 #[.pointer (some ⟨a, 0, none⟩)] w (PartPost 130 w a vb S.part) := by
  have ht : S.part = (⟨[], 0, S.counted.2.spot, S.counted.2.err, S.counted.2.spot⟩, S.counted.2) := by
    unfold RSt.part
    cases hh : S.counted with
    | mk x y => rw [hh] at hn; simp at hn; subst hn; rfl
  rw [ht]
  have HC := Lib.hid (counted_any h)
  have HN := Lib.hid hn
  clear h hn ht
  generalize S.counted = R at HC HN ⊢
  obtain ⟨_, R⟩ := R
  go_enter Tryd.func75, Tryd.ntmps75
  go_wp2_with fail
  refine HC.out.mono ?_; rintro e w1 hh
  rcases hh with ⟨m, hm, _⟩ | ⟨m, _, rfl, hr⟩
  · have hm2 := HN.out
    simp at hm hm2
    rw [hm2] at hm
    simp at hm
  · have HR := Lib.hid hr
    obtain ⟨-, -, -, d3, d4, -, -, -⟩ := cell5 hr.1.cells
    have hwf := hr.1.wf
    have HM := Lib.hid (show Mods [a] w w1.drew from hr.2.drew)
    have hi1 : IsR 130 w1.drew a R vb := hr.1.drewN 1
    have HI := Lib.hid hi1
    have HNW := Lib.hid (isR_new 130 (w := w1.drew) (vb := .slice none 0 0) (S := ⟨[], 0, R.spot, R.err, R.spot⟩) ⟨Nat.zero_le _, by show R.spot + 0 ≤ _; exact hwf.spot, hwf.spot, hwf.lo, hwf.hi⟩ ⟨none, 0, rfl, by simp, by unfold maxLen; omega, fun j u hu => by simp at hu⟩ (Or.inl rfl) (by simp [Value.ownBlock]))
    clear hr hwf hi1
    go_wp2_with fail
    go_still_tail 13, (by kernel_rfl)
    change wpList _ _ _ _ _ w1.drew
    generalize w1.drew = w2 at *
    go_wp2_with fail
    go_ret
    exact ⟨w2.heap.size, .slice none 0 0, rfl, HNW.out, HM.out.size, by simp [Value.ownBlock], HI.out.still ((Mods.refl _ _).alloc _), HM.out.alloc _⟩
/-- A piece of a slice, its room cut too. -/
theorem rd_part3 {w : World} {g off c m p n : Nat} {xs : List Value} (h : Rd w (.slice (some ⟨g, off, none⟩) m c) xs) (hm : xs.length = m) (hp : p + n ≤ m) :
    Rd w (.slice (if n = 0 then some ⟨g, off, none⟩ else some ⟨g, off + p, none⟩) n n) ((xs.drop p).take n) := by
  have hl : ((xs.drop p).take n).length = n := by simp; omega
  obtain ⟨A, c', e, h1, h2, h3⟩ := h
  cases e
  refine ⟨_, n, by rw [hl], by omega, by omega, fun j u hu => ?_⟩
  have hj : j < n := by rw [← hl]; exact (List.getElem?_eq_some_iff.1 hu).1
  have hu' : xs[p + j]? = some u := by
    rw [List.getElem?_take, if_pos hj, List.getElem?_drop] at hu
    exact hu
  obtain ⟨g', off', e', hc⟩ := h3 _ _ hu'
  cases e'
  refine ⟨g, off + p, by rw [if_neg (by omega)], ?_⟩
  rw [Nat.add_assoc]
  exact hc
set_option maxRecDepth 100000 in
set_option maxHeartbeats 1000000 in
theorem rpart_full {a g off c : Nat} {S : RSt} {w : World} (h : IsR 130 w a S (.slice (some ⟨g, off, none⟩) S.bytes.length c)) (n : Nat) (hcn : S.counted = (some n, S)) (he : S.err = 0) (hf : 2 + n ≤ S.rest.length) (hn : n < 65536) :
    Calls Tryd.prog 75 #[.pointer (some ⟨a, 0, none⟩)] w (PartPost 130 w a (.slice (some ⟨g, off, none⟩) S.bytes.length c) S.part) := by
  have ht : S.part = (⟨S.part2 n, 0, S.base + (S.place + 2), 0, 0⟩, { S with place := S.place + 2 + n }) := by unfold RSt.part; rw [hcn]
  rw [ht]
  have hsz := h.wf.size
  have hpl := h.wf.place
  have hfit : S.place + (2 + n) ≤ S.bytes.length := by simp [RSt.rest] at hf; omega
  have hpt : ((S.bytes.map byteV).drop (S.place + 2)).take n = (S.part2 n).map byteV := by rw [RSt.part2, RSt.rest, List.map_take, List.map_drop, List.map_drop, List.drop_drop]
  have hrp := rd_part3 (p := S.place + 2) (n := n) h.b (by simp) (by omega)
  rw [hpt] at hrp
  have hln : (S.part2 n).length = n := by simp [RSt.part2]; omega
  have HL := Lib.hid hln
  have HRP := Lib.hid hrp
  have hc : S.bytes.length ≤ c := by
    obtain ⟨A, c', e, h1, h2⟩ := rd_slice h.b
    cases e
    exact h1
  have H := Lib.hid h
  have HC := Lib.hid (counted_any h)
  have HE := Lib.hid he
  have HN := Lib.hid hcn
  have hab : a < w.heap.size := by have := h.cells; exact (Array.getElem?_eq_some_iff.1 this).1
  have hga : g ≠ a := by have := h.na; intro e; apply this; rw [← e]; rfl
  have hgl : g < w.heap.size := by
    obtain ⟨A, c', e, h1, h2, h3⟩ := h.b
    injection e with e0 _ _
    obtain ⟨g', off', e', hcc⟩ := h3 0 (byteV (S.bytes[0]'(by omega))) (by rw [List.getElem?_map, List.getElem?_eq_getElem (by omega)]; rfl)
    rw [← e0] at e'
    cases e'
    exact World.block_lt_of_cell? w _ hcc
  obtain ⟨c0, c1, c2, c3, c4, f1, f3, f4⟩ := cell5 h.cells
  clear h he hf hrp hpt hcn ht hln
  have s1 : IntKind.i64.wrap ((S.place : Int) + 2) = (S.place : Int) + 2 := IntWalk.i64_in _ (by omega)
  have s2 : IntKind.i64.wrap ((S.place : Int) + 2 + (n : Int)) = (S.place : Int) + 2 + (n : Int) := IntWalk.i64_in _ (by omega)
  have s3 : ((S.place : Int) + 2).toNat = S.place + 2 := by omega
  have s4 : ((S.place : Int) + 2 + (n : Int)).toNat = S.place + 2 + n := by omega
  have s5 : (0 : Int) ≤ (S.place : Int) + 2 := by omega
  have s6 : (S.place : Int) + 2 ≤ (S.place : Int) + 2 + (n : Int) := by omega
  have s7 : (S.place : Int) + 2 + (n : Int) ≤ (c : Int) := by omega
  have s8 : (0 : Int) ≤ (S.place : Int) + 2 + (n : Int) := by omega
  have s9 : S.place + 2 + n - (S.place + 2) = n := by omega
  have s10 : IntKind.i64.wrap ((S.base : Int) + ((S.place : Int) + 2)) = (S.base : Int) + ((S.place : Int) + 2) := IntWalk.i64_in _ (by omega)
  go_enter Tryd.func75, Tryd.ntmps75
  go_wp2_with fail
  refine HC.out.mono ?_; rintro e w1 hh
  rcases hh with ⟨m, hm, -, -, -, rfl, k, hk⟩ | ⟨m, hm, -⟩
  · obtain rfl : n = m := by rw [HN.out] at hm; simpa using hm
    have d0 : w1.cell? ⟨a, 0, none⟩ = some (.slice (some ⟨g, off, none⟩) S.bytes.length c) := by rw [← hk]; exact c0
    have d1 : w1.cell? ⟨a, 1, none⟩ = some (.int .i64 (S.place : Int)) := by rw [← hk]; exact c1
    have d2 : w1.cell? ⟨a, 2, none⟩ = some (.int .i64 (S.base : Int)) := by rw [← hk]; exact c2
    have e1 : w1.frozen? ⟨a, 1, none⟩ = false := by rw [← hk]; exact f1
    have hm1 : Mods [a] w w1 := by rw [← hk]; exact (Mods.refl _ _).drewN k
    have hi1 : IsR 130 w1 a S (.slice (some ⟨g, off, none⟩) S.bytes.length c) := by rw [← hk]; exact H.out.drewN k
    have HM1 := Lib.hid hm1
    have HI1 := Lib.hid hi1
    clear hk hm1 hi1 hm
    have hm2 : Mods [a] w (w1.setCell ⟨a, 1, none⟩ (.int .i64 ((S.place : Int) + 2 + (n : Int)))) := HM1.out.setCell (p := ⟨a, 1, none⟩) (Or.inl (by simp)) _
    have hi2 : IsR 130 (w1.setCell ⟨a, 1, none⟩ (.int .i64 ((S.place : Int) + 2 + (n : Int)))) a { S with place := S.place + (2 + n) } (.slice (some ⟨g, off, none⟩) S.bytes.length c) := HI1.out.goto (2 + n) hfit (by omega)
    go_wp2_with fail
    generalize w1.setCell ⟨a, 1, none⟩ (.int .i64 ((S.place : Int) + 2 + (n : Int))) = w2 at *
    obtain ⟨k0, k1, k2, -, -, -, -, -⟩ := cell5 hi2.cells
    have k1' : w2.cell? ⟨a, 1, none⟩ = some (.int .i64 ((S.place : Int) + 2 + (n : Int))) := by rw [k1]; congr 2; show ((S.place + (2 + n) : Nat) : Int) = _; omega
    have hm3 : Mods [a] w w2.drew := hm2.drew
    have hi3 : IsR 130 w2.drew a { S with place := S.place + (2 + n) } (.slice (some ⟨g, off, none⟩) S.bytes.length c) := hi2.drewN 1
    have hrp3 := HRP.out.mods hm3 (by
      intro k hk
      split at hk <;> · simp [Value.ownBlock] at hk; subst hk; simpa using hga)
    have HM3 := Lib.hid hm3
    have HI3 := Lib.hid hi3
    have HRP3 := Lib.hid hrp3
    clear hm2 hi2 k1 hm3 hi3 hrp3
    go_still_tail 21, (by kernel_rfl)
    change wpList _ _ _ _ _ w2.drew
    generalize w2.drew = w3 at *
    generalize hz : (if n = 0 then (some ⟨g, off, none⟩ : Option Addr) else some ⟨g, off + (S.place + 2), none⟩) = zz at *
    have hzb : ∃ o, zz = some ⟨g, o, none⟩ := by subst hz; split <;> exact ⟨_, rfl⟩
    have HZB := Lib.hid hzb
    clear hz hzb
    go_wp2_with fail
    go_ret
    obtain ⟨o, ho⟩ := HZB.out
    have hown : ∀ k, (Value.slice zz n n).ownBlock = some k → g = k := by
      intro k hk
      rw [ho] at hk
      simpa [Value.ownBlock] using hk
    rw [Nat.add_assoc]
    refine ⟨w3.heap.size, .slice zz n n, rfl, ?_, HM3.out.size, fun k hk => by rw [hown k hk]; rfl, HI3.out.mods (F := []) ((Mods.refl _ _).alloc _) (by simp) (by simp), HM3.out.alloc _⟩
    exact isR_new 130 (S := ⟨S.part2 n, 0, S.base + (S.place + 2), 0, 0⟩) ⟨Nat.zero_le _, by show S.base + (S.place + 2) + (S.part2 n).length ≤ _; rw [HL.out]; omega, Nat.zero_le _, by show _ ≤ (0 : Int); omega, by show (0 : Int) ≤ _; omega⟩ HRP3.out (by subst ho; exact Or.inr ⟨_, _, _, _, rfl⟩) (fun k hk => by rw [← hown k hk]; have := HM3.out.size; omega)
  · rw [HN.out] at hm; simp at hm
theorem counted_some {S : RSt} {n : Nat} (hc : S.counted.1 = some n) : S.counted = (some n, S) ∧ S.err = 0 ∧ 2 + n ≤ S.rest.length ∧ n < 65536 := by
  unfold RSt.counted at hc ⊢
  by_cases he : S.err ≠ 0
  · rw [if_pos he] at hc; simp at hc
  rw [if_neg he] at hc ⊢
  by_cases h2 : S.rest.length < 2
  · rw [if_pos h2] at hc; simp at hc
  rw [if_neg h2] at hc ⊢
  by_cases h3 : S.rest.length < 2 + val (S.rest.take 2)
  · rw [if_pos h3] at hc; simp at hc
  rw [if_neg h3] at hc ⊢
  simp at hc
  subst hc
  exact ⟨rfl, by omega, by omega, val_take_lt _ 2⟩
theorem rpart_any {a : Nat} {S : RSt} {vb : Value} {w : World} (h : IsR 130 w a S vb) :
    Calls Tryd.prog 75 #[.pointer (some ⟨a, 0, none⟩)] w (PartPost 130 w a vb S.part) := by
  cases hc : S.counted.1 with
  | none => exact rpart_none h hc
  | some n =>
    obtain ⟨h1, h2, h3, h4⟩ := counted_some hc
    obtain ⟨A, c, hvb, h5, h6⟩ := rd_slice h.b
    rcases h.pl with rfl | ⟨g, off, m, c', rfl⟩
    · injection hvb with _ e2 _
      simp [RSt.rest] at h3
      omega
    · injection hvb with e1 e2 e3
      subst e2
      exact rpart_full h n h1 h2 h3 h4
end Go.Proofs.YtedddekkbgaolaaDoor
