/- The walk of a reader's Text. | The walk of a reader's Raw. | The walks of NewReader and a reader's Part. | The walk of same: are two lists of bytes the same? | A writer of one's own, its calls; known. | Calls of a writer, one behind the other; stat.PutQid. -/
import Derived.Test.YtnpokdbpmnkbjaaGreatDoorRe
import Derived.Test.YtnpokdbpmnkbjaaGreatDoorGood
import Derived.Laws.BytesArg
import Derived.Test.YtnpokdbpmnkbjaaGreatDoorWu
import Derived.StillTailTactics
namespace Go.Proofs.YtnpokdbpmnkbjaaGreatDoor
open Go.RowKit Me

theorem nums_id (l : List UInt8) : (l.map fun b => (b.toNat : Int)).map (fun n => UInt8.ofNat n.toNat) = l := by
  induction l with
  | nil => rfl
  | cons x l ih => simp only [List.map_cons, ih]; simp
theorem conv_bytes {w : World} {g off : Nat} (cap : Nat) (l : List UInt8) (hc : ∀ j b, l[j]? = some b → w.cell? ⟨g, off + j, none⟩ = some (byteV b)) :
    (convert 37 9 (.slice (some ⟨g, off, none⟩) l.length cap)).run Tryz.prog w = .ok (.string ⟨l.toArray⟩) w := by
  have h := run_convert_bytes_arg (P := Tryz.prog) w 37 5 Tryz.underlying37 Tryz.underlying5 g off l.length cap (l.map fun b => (b.toNat : Int)) (by simp) (by
    intro i hi
    rw [hc i l[i] (by simp [hi])]
    simp [List.getD, hi, byteV]) 9 Tryz.underlying9
  rw [h]
  unfold strOfNums
  rw [nums_id]
theorem conv_part {w : World} {g off c p : Nat} (l : List UInt8) (hpc : c = p → l = []) (hc : ∀ j b, l[j]? = some b → w.cell? ⟨g, off + p + j, none⟩ = some (byteV b)) :
    ∀ k, (convert 37 9 (.slice (if c = p then some ⟨g, off, none⟩ else some ⟨g, off + p, none⟩) l.length (c - p))).run Tryz.prog (w.drewN k) = .ok (.string ⟨l.toArray⟩) (w.drewN k) := by
  intro k
  by_cases h : c = p
  · rw [if_pos h]
    have hl := hpc h
    subst hl
    exact conv_bytes (c - p) [] (by intro j b hj; simp at hj)
  · rw [if_neg h]
    exact conv_bytes (c - p) l hc

theorem bad_yes (l : List UInt8) (w : World) (hs : l.length ≤ maxLen) (hT : Lib.Utf8Tabs 0 1 w) (hg : Tx.good l = true) :
    Calls Tryz.prog 122 #[.string ⟨l.toArray⟩] w fun e w' => e = .returned (.int .i64 (-1)) ∧ Mods [] w w' :=
  (bad_any ⟨l.toArray⟩ w (by simpa [ByteArray.size] using hs) hT).mono fun _ _ h => ⟨by rw [h.1]; simp [badV, hg], Mods.below h.2 _⟩
theorem bad_no (l : List UInt8) (w : World) (hs : l.length ≤ maxLen) (hT : Lib.Utf8Tabs 0 1 w) (hg : Tx.good l = false) :
    Calls Tryz.prog 122 #[.string ⟨l.toArray⟩] w fun e w' => e = .returned (.int .i64 (Tx.badL l : Int)) ∧ Mods [] w w' :=
  (bad_any ⟨l.toArray⟩ w (by simpa [ByteArray.size] using hs) hT).mono fun _ _ h => ⟨by rw [h.1]; simp [badV, hg], Mods.below h.2 _⟩
theorem wrong_at {a : Nat} {S : RSt} {vb : Value} {w : World} (h : IsR 140 w a S vb) (e : Int) (n : Nat) (h1 : -9223372036854775808 ≤ e) (h2 : e ≤ 9223372036854775807) (hn : S.place + n ≤ S.bytes.length) {y : Int} (hy : y = (n : Int)) :
    Calls Tryz.prog 124 #[.pointer (some ⟨a, 0, none⟩), .int .i64 e, .int .i64 y] w fun x w' => x = .returned (.tuple #[]) ∧ RPost 140 w a vb (S.wrong e n) w' := by
  subst hy
  exact wrong_any h e n h1 h2 hn
theorem IsR.still {T : TypeId} {w w' : World} {a : Nat} {S : RSt} {vb : Value} (h : IsR T w a S vb) (hm : Mods [] w w') : IsR T w' a S vb := h.mods hm (by simp) (by simp)
theorem mods_up {F : List Nat} {w w' : World} (h : Mods [] w w') : Mods F w w' := ⟨h.os, h.tape, h.output, h.size, fun b hb _ => h.block b hb (by simp)⟩
theorem RPost.behind {T : TypeId} {w w1 w' : World} {a : Nat} {vb : Value} {S' : RSt} (hm : Mods [] w w1) (h : RPost T w1 a vb S' w') : RPost T w a vb S' w' := ⟨h.1, (mods_up hm).trans h.2 (fun _ hb => Or.inl hb)⟩

set_option maxRecDepth 100000 in
set_option maxHeartbeats 1000000 in
theorem rtext_full {a : Nat} {S : RSt} {vb : Value} {w : World} (h : IsR 140 w a S vb) (hT : Lib.Utf8Tabs 0 1 w) (n : Nat) (hcn : S.counted = (some n, S)) (he : S.err = 0) (hf : 2 + n ≤ S.rest.length) (hn : n < 65536) :
    Calls Tryz.prog 111 #[.pointer (some ⟨a, 0, none⟩)] w fun x w' => x = .returned (.string ⟨S.text.1.toArray⟩) ∧ RPost 140 w a vb S.text.2 w' := by
  have hsz := h.wf.size
  have hpl := h.wf.place
  have hfit : S.place + (2 + n) ≤ S.bytes.length := by simp [RSt.rest] at hf; omega
  obtain ⟨A, c, hvb, hlc, hcm, hcells⟩ := h.b
  obtain ⟨g, off, hA, hby⟩ := rd_bytes hvb hcells (by omega) S.place (2 + n) hfit
  subst hA
  have hpl2 : (S.part2 n).length = n := by simp [RSt.part2]; omega
  have hconv := conv_part (w := w) (g := g) (off := off) (c := c) (p := S.place + 2) (S.part2 n) (by
    intro hc
    rw [List.length_map] at hlc
    exact List.length_eq_zero_iff.1 (by omega)) (by
    intro j b hj
    have hjn : j < n := by rw [← hpl2]; exact (List.getElem?_eq_some_iff.1 hj).1
    obtain ⟨b', h1, h2⟩ := hby (2 + j) (by omega)
    have e : b' = b := by
      simp only [RSt.part2, RSt.rest, List.getElem?_take, List.getElem?_drop] at hj
      rw [if_pos hjn] at hj
      rw [List.getElem?_drop] at h1
      rw [h1] at hj
      exact Option.some.inj hj
    subst e
    rw [show off + (S.place + 2) + j = off + (S.place + (2 + j)) by omega]
    exact h2)
  rw [hpl2] at hconv
  have hszl : (⟨(S.part2 n).toArray⟩ : ByteArray).size = n := by simp [ByteArray.size, hpl2]
  have HCV := Lib.hid hconv
  clear hconv
  rw [List.length_map] at hvb hlc
  subst hvb
  have H := Lib.hid h
  have HC := Lib.hid (counted_any h)
  have HE := Lib.hid he
  have HN := Lib.hid hcn
  have HF := Lib.hid hf
  obtain ⟨c0, c1, c2, c3, c4, f1, f3, f4⟩ := cell5 h.cells
  have ht : S.text = if Tx.good (S.part2 n) then (S.part2 n, { S with place := S.place + 2 + n }) else ([], S.wrong 12 (2 + Tx.badL (S.part2 n))) := by unfold RSt.text; rw [hcn]
  have HT := Lib.hid ht
  have HBL := Lib.hid (Tx.badL_le (S.part2 n))
  have HL := Lib.hid hpl2
  clear h he hf hcells hby hcn ht hpl2 hszl
  have s1 : IntKind.i64.wrap ((S.place : Int) + 2) = (S.place : Int) + 2 := IntWalk.i64_in _ (by omega)
  have s2 : IntKind.i64.wrap ((S.place : Int) + 2 + (n : Int)) = (S.place : Int) + 2 + (n : Int) := IntWalk.i64_in _ (by omega)
  have s3 : ((S.place : Int) + 2).toNat = S.place + 2 := by omega
  have s4 : ((S.place : Int) + 2 + (n : Int)).toNat = S.place + 2 + n := by omega
  have s5 : (0 : Int) ≤ (S.place : Int) + 2 := by omega
  have s6 : (S.place : Int) + 2 ≤ (S.place : Int) + 2 + (n : Int) := by omega
  have s7 : (S.place : Int) + 2 + (n : Int) ≤ (c : Int) := by omega
  have s8 : (0 : Int) ≤ (S.place : Int) + 2 + (n : Int) := by omega
  go_enter Tryz.func111, Tryz.ntmps111
  go_wp2_with fail
  refine HC.out.mono ?_; rintro e w1 hh
  rcases hh with ⟨m, hm, _, _, _, rfl, k, rfl⟩ | ⟨m, hm, _⟩
  · obtain rfl : m = n := by rw [HN.out] at hm; simpa using hm.symm
    clear hm
    go_wp2_with fail
    refine wp_region_quiet_lit (by kernel_rfl) (by kernel_rfl) ?_
    repeat (quiet_step (fail))
    refine wpQuiet_step (fun K hK => ?_)
    go_simp
    refine ⟨.string ⟨(S.part2 m).toArray⟩, fun n' => ?_, hK _ ?_⟩
    · rw [HCV.out]
      exact ⟨rfl, rfl⟩
    clear hK K
    repeat (quiet_step (fail))
    refine wpQuiet_nil ?_
    intro _ hw'
    obtain ⟨nq, rfl⟩ := hw'
    generalize (Value.slice (if c = S.place + 2 then some ⟨g, off, none⟩ else some ⟨g, off + (S.place + 2), none⟩) m (c - (S.place + 2))) = zz
    go_wp2_with fail
    have HP := Lib.hid ((Mods.refl [] w).drewN (k + nq))
    have hTt : Lib.Utf8Tabs 0 1 (w.drewN (k + nq)) := hT
    cases hg : Tx.good (S.part2 m) with
    | true =>
      have HG := Lib.hid hg
      clear hg
      refine (bad_yes _ _ (by rw [HL.out]; unfold maxLen; omega) hTt HG.out).mono ?_; rintro e w1 ⟨rfl, hb⟩
      have HB := Lib.hid (HP.out.trans hb (fun _ h => Or.inl h))
      have HI := Lib.hid (H.out.still HB.out)
      obtain ⟨-, d1, -, -, -, g1, -, -⟩ := cell5 HI.out.cells
      clear hb hTt
      go_wp2_with fail
      go_ret
      rw [HT.out, if_pos HG.out, Nat.add_assoc]
      exact ⟨rfl, HI.out.goto (2 + m) hfit (by omega), (mods_up HB.out).setCell (p := ⟨a, 1, none⟩) (Or.inl (by simp)) _⟩
    | false =>
      have HG := Lib.hid hg
      clear hg
      refine (bad_no _ _ (by rw [HL.out]; unfold maxLen; omega) hTt HG.out).mono ?_; rintro e w1 ⟨rfl, hb⟩
      have HB := Lib.hid (HP.out.trans hb (fun _ h => Or.inl h))
      have HI := Lib.hid (H.out.still HB.out)
      clear hb hTt
      have hbl : Tx.badL (S.part2 m) ≤ m := by have := HBL.out; rw [HL.out] at this; exact this
      generalize Tx.badL (S.part2 m) = q at *
      go_wp2_with fail
      refine (wrong_at HI.out 12 (2 + q) (by omega) (by omega) (by omega) (by omega)).mono ?_; rintro e w2 ⟨rfl, hr⟩
      have HR := Lib.hid hr
      clear hr
      go_wp2_with fail
      go_ret
      rw [HT.out, if_neg (by rw [HG.out]; simp)]
      exact ⟨rfl, HR.out.behind HB.out⟩
  · rw [HN.out] at hm; simp at hm
set_option maxHeartbeats 400000 in
theorem rtext_any {a : Nat} {S : RSt} {vb : Value} {w : World} (h : IsR 140 w a S vb) (hT : Lib.Utf8Tabs 0 1 w) :
    Calls Tryz.prog 111 #[.pointer (some ⟨a, 0, none⟩)] w fun x w' => x = .returned (.string ⟨S.text.1.toArray⟩) ∧ RPost 140 w a vb S.text.2 w' := by
  cases hc : S.counted.1 with
  | some n =>
    have h1 : S.counted = (some n, S) ∧ S.err = 0 ∧ 2 + n ≤ S.rest.length ∧ n < 65536 := by
      unfold RSt.counted at hc ⊢
      by_cases he : S.err ≠ 0
      · rw [if_pos he] at hc; simp at hc
      rw [if_neg he] at hc ⊢
      by_cases h2 : S.rest.length < 2
      · rw [if_pos h2] at hc; simp at hc
      rw [if_neg h2] at hc ⊢
      by_cases h3 : S.rest.length < 2 + val (S.rest.take 2)
      · rw [if_pos h3] at hc; simp at hc
      rw [if_neg h3] at hc ⊢
      simp at hc
      subst hc
      exact ⟨rfl, by omega, by omega, val_take_lt _ 2⟩
    exact rtext_full h hT n h1.1 h1.2.1 h1.2.2.1 h1.2.2.2
  | none =>
    have ht : S.text = ([], S.counted.2) := by
      unfold RSt.text
      cases hh : S.counted with
      | mk x y => rw [hh] at hc; simp at hc; subst hc; rfl
    rw [ht]
    have HC := Lib.hid (counted_any h)
    have HN := Lib.hid hc
    clear h hc ht
    generalize S.counted = R at HC HN ⊢
    go_enter Tryz.func111, Tryz.ntmps111
    go_wp2_with fail
    refine HC.out.mono ?_; rintro e w1 hh
    rcases hh with ⟨m, hm, _⟩ | ⟨m, _, rfl, hr⟩
    · have hm2 := HN.out
      rw [hm] at hm2
      simp at hm2
    · have HR := Lib.hid hr
      clear hr
      go_wp2_with fail
      go_ret
      exact ⟨rfl, HR.out⟩
end Go.Proofs.YtnpokdbpmnkbjaaGreatDoor
namespace Go.Proofs.YtnpokdbpmnkbjaaGreatDoor
open Go.RowKit Me

/-- A piece of a slice reads as a piece of it. -/
theorem rd_part {w : World} {g off c m p n : Nat} {xs : List Value} (h : Rd w (.slice (some ⟨g, off, none⟩) m c) xs) (_hm : xs.length = m) (hp : p + n ≤ m) :
    Rd w (.slice (if c = p then some ⟨g, off, none⟩ else some ⟨g, off + p, none⟩) n (c - p)) ((xs.drop p).take n) := by
  obtain ⟨A, c', e, h1, h2, h3⟩ := h
  cases e
  have hl : ((xs.drop p).take n).length = n := by simp; omega
  refine ⟨_, _, by rw [hl], by omega, by omega, fun j u hu => ?_⟩
  have hj : j < n := by rw [← hl]; exact (List.getElem?_eq_some_iff.1 hu).1
  have hu' : xs[p + j]? = some u := by
    rw [List.getElem?_take, if_pos hj, List.getElem?_drop] at hu
    exact hu
  obtain ⟨g', off', e', hc⟩ := h3 _ _ hu'
  cases e'
  refine ⟨g, off + p, by rw [if_neg (by omega)], ?_⟩
  rw [Nat.add_assoc]
  exact hc

end Go.Proofs.YtnpokdbpmnkbjaaGreatDoor
namespace Go.Proofs.YtnpokdbpmnkbjaaGreatDoor
open Go.RowKit Me

def RSt.new (l : List UInt8) : RSt := ⟨l, 0, 0, 0, 0⟩
theorem plain_own {w : World} {base : Nat} {e : TypeId} {size : Nat} {v : Value} {n : Nat} {xs : List Value} (h : w.ownsRow base e size v n xs) : Plain v := by
  rcases ownsRow_form h with ⟨rfl, _⟩ | ⟨g, c, rfl, _⟩
  · exact Or.inl rfl
  · exact Or.inr ⟨g, 0, n, c, rfl⟩
/-- A new reader in a new block. -/
theorem isR_new (T : TypeId) {w : World} {vb : Value} {S : RSt} (hw : S.Wf) (hb : Rd w vb (S.bytes.map byteV)) (hp : Plain vb) (hl : ∀ k, vb.ownBlock = some k → k < w.heap.size) :
    IsR T (w.alloc (.cells #[vb, .int .i64 (S.place : Int), .int .i64 (S.base : Int), .int .i64 S.err, .int .i64 (S.spot : Int)] T)) w.heap.size S vb :=
  ⟨hw, heap_alloc_new w _, hb.mods (F := []) ((Mods.refl _ _).alloc _) (by simp), fun h => by have := hl _ h; omega, hp⟩

/-- What NewReader leaves. -/
def NewPost (T : TypeId) (w : World) (l : List UInt8) (e : Ending) (w' : World) : Prop :=
  ∃ a vb, e = .returned (.pointer (some ⟨a, 0, none⟩)) ∧ IsR T w' a (RSt.new l) vb ∧ w'.ownsRow w.heap.size 5 1 vb l.length (l.map byteV) ∧ w.heap.size ≤ a ∧ Mods [] w w'

set_option maxRecDepth 100000 in
set_option maxHeartbeats 400000 in
theorem newReader_any {w : World} {vx : Value} (l : List UInt8) (hx : Rd w vx (l.map byteV)) (hl : l.length ≤ 70000000000000) :
    Calls Tryz.prog 60 #[vx] w (NewPost 140 w l) := by
  have HX := Lib.hid hx
  clear hx
  obtain ⟨i0, hi, hz0, hz1, hz2⟩ := info_parts info5
  go_enter Tryz.func60, Tryz.ntmps60
  go_wp2_with (at_builtin; go_must (refine wpList_app _ rfl _ _ 37 37 rfl w.heap.size 5 i0 (.int .u8 0) 1 1 Tryz.underlying37 hi hz0 hz1 hz2 rfl (.slice none 0 0) 0 [] rfl (World.ownsRow_nil _ _ _ _) vx l.length (l.map byteV) rfl ?c1 ?c2 ?c3 ?c4 ?_))
  case c1 =>
    have h := HX.out.src Tryz.underlying37 (bytes_one _)
    rw [List.length_map] at h
    exact h
  case c2 => unfold maxLen; omega
  case c3 => omega
  case c4 => exact Nat.le_refl _
  intro v' w1 hown hgrow hat2
  obtain ⟨A', c', rfl⟩ := own_ctor hown
  have HM := Lib.hid ((Mods.refl [] w).grown hgrow (by simp [Value.ownBlock]))
  have HO := Lib.hid hown
  clear hown hgrow hat2
  have HI := Lib.hid (isR_new 140 (w := w1) (vb := .slice A' l.length c') (S := RSt.new l) ⟨Nat.zero_le _, by show 0 + l.length ≤ _; omega, Nat.zero_le _, by show _ ≤ (0 : Int); omega, by show (0 : Int) ≤ _; omega⟩ (by
    have := Rd.of_own HO.out
    simpa [RSt.new] using this) (plain_own HO.out) (ownsRow_lt HO.out))
  go_wp2_with fail
  go_ret
  refine ⟨w1.heap.size, _, rfl, HI.out, ?_, HM.out.size, HM.out.alloc _⟩
  exact ownsRow_mods (F := []) HO.out ((Mods.refl _ _).alloc _) (by simp)

/-- What Part leaves. -/
def PartPost (T : TypeId) (w : World) (a : Nat) (vb : Value) (r : RSt × RSt) (e : Ending) (w' : World) : Prop :=
  ∃ p vp, e = .returned (.pointer (some ⟨p, 0, none⟩)) ∧ IsR T w' p r.1 vp ∧ w.heap.size ≤ p ∧ (∀ k, vp.ownBlock = some k → vb.ownBlock = some k) ∧ RPost T w a vb r.2 w'

set_option maxRecDepth 100000 in
set_option maxHeartbeats 1000000 in
theorem rpart_none {a : Nat} {S : RSt} {vb : Value} {w : World} (h : IsR 140 w a S vb) (hn : S.counted.1 = none) :
    Calls Tryz.prog 107 #[.pointer (some ⟨a, 0, none⟩)] w (PartPost 140 w a vb S.part) := by
  have ht : S.part = (⟨[], 0, S.counted.2.spot, S.counted.2.err, S.counted.2.spot⟩, S.counted.2) := by
    unfold RSt.part
    cases hh : S.counted with
    | mk x y => rw [hh] at hn; simp at hn; subst hn; rfl
  rw [ht]
  have HC := Lib.hid (counted_any h)
  have HN := Lib.hid hn
  clear h hn ht
  generalize S.counted = R at HC HN ⊢
  obtain ⟨_, R⟩ := R
  go_enter Tryz.func107, Tryz.ntmps107
  go_wp2_with fail
  refine HC.out.mono ?_; rintro e w1 hh
  rcases hh with ⟨m, hm, _⟩ | ⟨m, _, rfl, hr⟩
  · have hm2 := HN.out
    simp at hm hm2
    rw [hm2] at hm
    simp at hm
  · have HR := Lib.hid hr
    obtain ⟨-, -, -, d3, d4, -, -, -⟩ := cell5 hr.1.cells
    have hwf := hr.1.wf
    have HM := Lib.hid (show Mods [a] w w1.drew from hr.2.drew)
    have hi1 : IsR 140 w1.drew a R vb := hr.1.drewN 1
    have HI := Lib.hid hi1
    have HNW := Lib.hid (isR_new 140 (w := w1.drew) (vb := .slice none 0 0) (S := ⟨[], 0, R.spot, R.err, R.spot⟩) ⟨Nat.zero_le _, by show R.spot + 0 ≤ _; exact hwf.spot, hwf.spot, hwf.lo, hwf.hi⟩ ⟨none, 0, rfl, by simp, by unfold maxLen; omega, fun j u hu => by simp at hu⟩ (Or.inl rfl) (by simp [Value.ownBlock]))
    clear hr hwf hi1
    go_wp2_with fail
    go_still_tail 13, (by kernel_rfl)
    change wpList _ _ _ _ _ w1.drew
    generalize w1.drew = w2 at *
    go_wp2_with fail
    go_ret
    exact ⟨w2.heap.size, .slice none 0 0, rfl, HNW.out, HM.out.size, by simp [Value.ownBlock], HI.out.still ((Mods.refl _ _).alloc _), HM.out.alloc _⟩
/-- A piece of a slice, its room cut too. -/
theorem rd_part3 {w : World} {g off c m p n : Nat} {xs : List Value} (h : Rd w (.slice (some ⟨g, off, none⟩) m c) xs) (hm : xs.length = m) (hp : p + n ≤ m) :
    Rd w (.slice (if n = 0 then some ⟨g, off, none⟩ else some ⟨g, off + p, none⟩) n n) ((xs.drop p).take n) := by
  have hl : ((xs.drop p).take n).length = n := by simp; omega
  obtain ⟨A, c', e, h1, h2, h3⟩ := h
  cases e
  refine ⟨_, n, by rw [hl], by omega, by omega, fun j u hu => ?_⟩
  have hj : j < n := by rw [← hl]; exact (List.getElem?_eq_some_iff.1 hu).1
  have hu' : xs[p + j]? = some u := by
    rw [List.getElem?_take, if_pos hj, List.getElem?_drop] at hu
    exact hu
  obtain ⟨g', off', e', hc⟩ := h3 _ _ hu'
  cases e'
  refine ⟨g, off + p, by rw [if_neg (by omega)], ?_⟩
  rw [Nat.add_assoc]
  exact hc
set_option maxRecDepth 100000 in
set_option maxHeartbeats 1000000 in
theorem rpart_full {a g off c : Nat} {S : RSt} {w : World} (h : IsR 140 w a S (.slice (some ⟨g, off, none⟩) S.bytes.length c)) (n : Nat) (hcn : S.counted = (some n, S)) (he : S.err = 0) (hf : 2 + n ≤ S.rest.length) (hn : n < 65536) :
    Calls Tryz.prog 107 #[.pointer (some ⟨a, 0, none⟩)] w (PartPost 140 w a (.slice (some ⟨g, off, none⟩) S.bytes.length c) S.part) := by
  have ht : S.part = (⟨S.part2 n, 0, S.base + (S.place + 2), 0, 0⟩, { S with place := S.place + 2 + n }) := by unfold RSt.part; rw [hcn]
  rw [ht]
  have hsz := h.wf.size
  have hpl := h.wf.place
  have hfit : S.place + (2 + n) ≤ S.bytes.length := by simp [RSt.rest] at hf; omega
  have hpt : ((S.bytes.map byteV).drop (S.place + 2)).take n = (S.part2 n).map byteV := by rw [RSt.part2, RSt.rest, List.map_take, List.map_drop, List.map_drop, List.drop_drop]
  have hrp := rd_part3 (p := S.place + 2) (n := n) h.b (by simp) (by omega)
  rw [hpt] at hrp
  have hln : (S.part2 n).length = n := by simp [RSt.part2]; omega
  have HL := Lib.hid hln
  have HRP := Lib.hid hrp
  have hc : S.bytes.length ≤ c := by
    obtain ⟨A, c', e, h1, h2⟩ := rd_slice h.b
    cases e
    exact h1
  have H := Lib.hid h
  have HC := Lib.hid (counted_any h)
  have HE := Lib.hid he
  have HN := Lib.hid hcn
  have hab : a < w.heap.size := by have := h.cells; exact (Array.getElem?_eq_some_iff.1 this).1
  have hga : g ≠ a := by have := h.na; intro e; apply this; rw [← e]; rfl
  have hgl : g < w.heap.size := by
    obtain ⟨A, c', e, h1, h2, h3⟩ := h.b
    injection e with e0 _ _
    obtain ⟨g', off', e', hcc⟩ := h3 0 (byteV (S.bytes[0]'(by omega))) (by rw [List.getElem?_map, List.getElem?_eq_getElem (by omega)]; rfl)
    rw [← e0] at e'
    cases e'
    exact World.block_lt_of_cell? w _ hcc
  obtain ⟨c0, c1, c2, c3, c4, f1, f3, f4⟩ := cell5 h.cells
  clear h he hf hrp hpt hcn ht hln
  have s1 : IntKind.i64.wrap ((S.place : Int) + 2) = (S.place : Int) + 2 := IntWalk.i64_in _ (by omega)
  have s2 : IntKind.i64.wrap ((S.place : Int) + 2 + (n : Int)) = (S.place : Int) + 2 + (n : Int) := IntWalk.i64_in _ (by omega)
  have s3 : ((S.place : Int) + 2).toNat = S.place + 2 := by omega
  have s4 : ((S.place : Int) + 2 + (n : Int)).toNat = S.place + 2 + n := by omega
  have s5 : (0 : Int) ≤ (S.place : Int) + 2 := by omega
  have s6 : (S.place : Int) + 2 ≤ (S.place : Int) + 2 + (n : Int) := by omega
  have s7 : (S.place : Int) + 2 + (n : Int) ≤ (c : Int) := by omega
  have s8 : (0 : Int) ≤ (S.place : Int) + 2 + (n : Int) := by omega
  have s9 : S.place + 2 + n - (S.place + 2) = n := by omega
  have s10 : IntKind.i64.wrap ((S.base : Int) + ((S.place : Int) + 2)) = (S.base : Int) + ((S.place : Int) + 2) := IntWalk.i64_in _ (by omega)
  go_enter Tryz.func107, Tryz.ntmps107
  go_wp2_with fail
  refine HC.out.mono ?_; rintro e w1 hh
  rcases hh with ⟨m, hm, -, -, -, rfl, k, hk⟩ | ⟨m, hm, -⟩
  · obtain rfl : n = m := by rw [HN.out] at hm; simpa using hm
    have d0 : w1.cell? ⟨a, 0, none⟩ = some (.slice (some ⟨g, off, none⟩) S.bytes.length c) := by rw [← hk]; exact c0
    have d1 : w1.cell? ⟨a, 1, none⟩ = some (.int .i64 (S.place : Int)) := by rw [← hk]; exact c1
    have d2 : w1.cell? ⟨a, 2, none⟩ = some (.int .i64 (S.base : Int)) := by rw [← hk]; exact c2
    have e1 : w1.frozen? ⟨a, 1, none⟩ = false := by rw [← hk]; exact f1
    have hm1 : Mods [a] w w1 := by rw [← hk]; exact (Mods.refl _ _).drewN k
    have hi1 : IsR 140 w1 a S (.slice (some ⟨g, off, none⟩) S.bytes.length c) := by rw [← hk]; exact H.out.drewN k
    have HM1 := Lib.hid hm1
    have HI1 := Lib.hid hi1
    clear hk hm1 hi1 hm
    have hm2 : Mods [a] w (w1.setCell ⟨a, 1, none⟩ (.int .i64 ((S.place : Int) + 2 + (n : Int)))) := HM1.out.setCell (p := ⟨a, 1, none⟩) (Or.inl (by simp)) _
    have hi2 : IsR 140 (w1.setCell ⟨a, 1, none⟩ (.int .i64 ((S.place : Int) + 2 + (n : Int)))) a { S with place := S.place + (2 + n) } (.slice (some ⟨g, off, none⟩) S.bytes.length c) := HI1.out.goto (2 + n) hfit (by omega)
    go_wp2_with fail
    generalize w1.setCell ⟨a, 1, none⟩ (.int .i64 ((S.place : Int) + 2 + (n : Int))) = w2 at *
    obtain ⟨k0, k1, k2, -, -, -, -, -⟩ := cell5 hi2.cells
    have k1' : w2.cell? ⟨a, 1, none⟩ = some (.int .i64 ((S.place : Int) + 2 + (n : Int))) := by rw [k1]; congr 2; show ((S.place + (2 + n) : Nat) : Int) = _; omega
    have hm3 : Mods [a] w w2.drew := hm2.drew
    have hi3 : IsR 140 w2.drew a { S with place := S.place + (2 + n) } (.slice (some ⟨g, off, none⟩) S.bytes.length c) := hi2.drewN 1
    have hrp3 := HRP.out.mods hm3 (by
      intro k hk
      split at hk <;> · simp [Value.ownBlock] at hk; subst hk; simpa using hga)
    have HM3 := Lib.hid hm3
    have HI3 := Lib.hid hi3
    have HRP3 := Lib.hid hrp3
    clear hm2 hi2 k1 hm3 hi3 hrp3
    go_still_tail 21, (by kernel_rfl)
    change wpList _ _ _ _ _ w2.drew
    generalize w2.drew = w3 at *
    generalize hz : (if n = 0 then (some ⟨g, off, none⟩ : Option Addr) else some ⟨g, off + (S.place + 2), none⟩) = zz at *
    have hzb : ∃ o, zz = some ⟨g, o, none⟩ := by subst hz; split <;> exact ⟨_, rfl⟩
    have HZB := Lib.hid hzb
    clear hz hzb
    go_wp2_with fail
    go_ret
    obtain ⟨o, ho⟩ := HZB.out
    have hown : ∀ k, (Value.slice zz n n).ownBlock = some k → g = k := by
      intro k hk
      rw [ho] at hk
      simpa [Value.ownBlock] using hk
    rw [Nat.add_assoc]
    refine ⟨w3.heap.size, .slice zz n n, rfl, ?_, HM3.out.size, fun k hk => by rw [hown k hk]; rfl, HI3.out.mods (F := []) ((Mods.refl _ _).alloc _) (by simp) (by simp), HM3.out.alloc _⟩
    exact isR_new 140 (S := ⟨S.part2 n, 0, S.base + (S.place + 2), 0, 0⟩) ⟨Nat.zero_le _, by show S.base + (S.place + 2) + (S.part2 n).length ≤ _; rw [HL.out]; omega, Nat.zero_le _, by show _ ≤ (0 : Int); omega, by show (0 : Int) ≤ _; omega⟩ HRP3.out (by subst ho; exact Or.inr ⟨_, _, _, _, rfl⟩) (fun k hk => by rw [← hown k hk]; have := HM3.out.size; omega)
  · rw [HN.out] at hm; simp at hm
theorem counted_some {S : RSt} {n : Nat} (hc : S.counted.1 = some n) : S.counted = (some n, S) ∧ S.err = 0 ∧ 2 + n ≤ S.rest.length ∧ n < 65536 := by
  unfold RSt.counted at hc ⊢
  by_cases he : S.err ≠ 0
  · rw [if_pos he] at hc; simp at hc
  rw [if_neg he] at hc ⊢
  by_cases h2 : S.rest.length < 2
  · rw [if_pos h2] at hc; simp at hc
  rw [if_neg h2] at hc ⊢
  by_cases h3 : S.rest.length < 2 + val (S.rest.take 2)
  · rw [if_pos h3] at hc; simp at hc
  rw [if_neg h3] at hc ⊢
  simp at hc
  subst hc
  exact ⟨rfl, by omega, by omega, val_take_lt _ 2⟩
theorem rpart_any {a : Nat} {S : RSt} {vb : Value} {w : World} (h : IsR 140 w a S vb) :
    Calls Tryz.prog 107 #[.pointer (some ⟨a, 0, none⟩)] w (PartPost 140 w a vb S.part) := by
  cases hc : S.counted.1 with
  | none => exact rpart_none h hc
  | some n =>
    obtain ⟨h1, h2, h3, h4⟩ := counted_some hc
    obtain ⟨A, c, hvb, h5, h6⟩ := rd_slice h.b
    rcases h.pl with rfl | ⟨g, off, m, c', rfl⟩
    · injection hvb with _ e2 _
      simp [RSt.rest] at h3
      omega
    · injection hvb with e1 e2 e3
      subst e2
      exact rpart_full h n h1 h2 h3 h4
end Go.Proofs.YtnpokdbpmnkbjaaGreatDoor
namespace Go.Proofs.YtnpokdbpmnkbjaaGreatDoor
open Go.RowKit Me

theorem rd_at {w : World} {A : Option Addr} {n c : Nat} {l : List UInt8} (h : Rd w (.slice A n c) (l.map byteV)) {j : Nat} (hj : j < l.length) : ∃ g off, A = some ⟨g, off, none⟩ ∧ w.cell? ⟨g, off + j, none⟩ = some (.int .u8 (l[j].toNat : Int)) := by
  obtain ⟨A', c', e, h1, h2, h3⟩ := h
  injection e with e0 _ _
  rw [e0]
  exact h3 j (byteV l[j]) (by simp [hj])

end Go.Proofs.YtnpokdbpmnkbjaaGreatDoor
namespace Go.Proofs.YtnpokdbpmnkbjaaGreatDoor
open Go.RowKit Me

theorem tabs_mods {w w' : World} (h : Mods [] w w') (hT : Lib.Utf8Tabs 0 1 w) : Lib.Utf8Tabs 0 1 w' := tabs_keep (h.toBelow (by simp)) hT

/-- A writer that was made since w0, and nothing that was there ahead has changed since. -/
def OwnW (T : TypeId) (w0 w : World) (a : Nat) (S : WSt) : Prop := Mods [] w0 w ∧ ∃ vb vo, IsW T w a S vb vo ∧ ∀ k ∈ foot a vb vo, w0.heap.size ≤ k
theorem OwnW.next {T : TypeId} {w0 w w' : World} {a : Nat} {S' : WSt} {vb vo : Value} (hm : Mods [] w0 w) (hk : ∀ k ∈ foot a vb vo, w0.heap.size ≤ k) (h : WPost T w a vb vo S' w') : OwnW T w0 w' a S' := by
  obtain ⟨vb', vo', h1, h2, h3⟩ := h
  refine ⟨hm.trans h2 (fun b hb => Or.inr (hk b hb)), vb', vo', h1, fun k hh => ?_⟩
  rcases h3 k hh with h | h
  · exact hk k h
  · exact Nat.le_trans hm.size h
theorem OwnW.still {T : TypeId} {w0 w w' : World} {a : Nat} {S : WSt} (h : OwnW T w0 w a S) (hm : Mods [] w w') : OwnW T w0 w' a S := by
  obtain ⟨h0, vb, vo, h1, hk⟩ := h
  exact ⟨h0.trans hm (fun _ h => Or.inl h), vb, vo, h1.mods hm (fun _ _ h => by cases h), hk⟩

/-- A reader that was made since w0, and nothing that was there ahead has changed since. -/
def OwnR (T : TypeId) (w0 w : World) (a : Nat) (S : RSt) (vb : Value) : Prop := Mods [] w0 w ∧ IsR T w a S vb ∧ w0.heap.size ≤ a ∧ ∀ k, vb.ownBlock = some k → k < w.heap.size
theorem OwnR.next {T : TypeId} {w0 w w' : World} {a : Nat} {S S' : RSt} {vb : Value} (h : OwnR T w0 w a S vb) (hp : RPost T w a vb S' w') : OwnR T w0 w' a S' vb :=
  ⟨h.1.trans hp.2 (fun b hb => by simp at hb; subst hb; exact Or.inr h.2.2.1), hp.1, h.2.2.1, fun k hk => Nat.lt_of_lt_of_le (h.2.2.2 k hk) hp.2.size⟩
theorem OwnR.drewN {T : TypeId} {w0 w : World} {a : Nat} {S : RSt} {vb : Value} (h : OwnR T w0 w a S vb) (k : Nat) : OwnR T w0 (w.drewN k) a S vb := ⟨h.1.drewN k, h.2.1.drewN k, h.2.2.1, h.2.2.2⟩
/-- Another reader has gone on. -/
theorem OwnR.other {T T' : TypeId} {w0 w w' : World} {a b : Nat} {S R R' : RSt} {vb vc : Value} (h : OwnR T w0 w a S vb) (hb : OwnR T' w0 w b R vc) (hp : RPost T' w b vc R' w') (hab : a ≠ b) (hn : vb.ownBlock ≠ some b) : OwnR T w0 w' a S vb :=
  ⟨h.1.trans hp.2 (fun c hc => by simp at hc; subst hc; exact Or.inr hb.2.2.1), h.2.1.mods hp.2 (by simpa using hab) (fun k hk => by simp; intro e; subst e; exact hn hk), h.2.2.1, fun k hk => Nat.lt_of_lt_of_le (h.2.2.2 k hk) hp.2.size⟩

def k1 : WSt := ⟨20, [2, 1], [], 0⟩
def k2 : WSt := ⟨20, [2, 1, 0, 0], [2], 0⟩
def k3 : WSt := ⟨20, [2, 1, 0, 0, 7], [2], 0⟩
def k4 : WSt := ⟨20, [2, 1, 0, 0, 7, 2, 0, 97, 98], [2], 0⟩
def k5 : WSt := ⟨20, [2, 1, 5, 0, 7, 2, 0, 97, 98], [], 0⟩
def r1 : RSt := ⟨[2, 1, 5, 0, 7, 2, 0, 97, 98], 2, 0, 0, 0⟩
def r2 : RSt := ⟨[2, 1, 5, 0, 7, 2, 0, 97, 98], 9, 0, 0, 0⟩
def p0 : RSt := ⟨[7, 2, 0, 97, 98], 0, 4, 0, 0⟩
end Go.Proofs.YtnpokdbpmnkbjaaGreatDoor
namespace Go.Proofs.YtnpokdbpmnkbjaaGreatDoor
open Go.RowKit Me

theorem WPost.start {T : TypeId} {w : World} {a : Nat} {S : WSt} {vb vo : Value} (h : IsW T w a S vb vo) : WPost T w a vb vo S w :=
  ⟨vb, vo, h, Mods.refl _ _, fun _ hk => Or.inl hk⟩
theorem WPost.trans {T : TypeId} {w0 w w' : World} {a : Nat} {S S' : WSt} {vb0 vo0 : Value} (h : WPost T w0 a vb0 vo0 S w)
    (hn : ∀ vb vo, IsW T w a S vb vo → WPost T w a vb vo S' w') : WPost T w0 a vb0 vo0 S' w' := by
  obtain ⟨vb, vo, h1, h2, h3⟩ := h
  obtain ⟨vb', vo', g1, g2, g3⟩ := hn vb vo h1
  refine ⟨vb', vo', g1, h2.trans g2 h3, fun k hk => ?_⟩
  rcases g3 k hk with h | h
  · exact h3 k h
  · exact Or.inr (Nat.le_trans h2.size h)
theorem WPost.still {T : TypeId} {w0 w w' : World} {a : Nat} {S : WSt} {vb0 vo0 : Value} (h : WPost T w0 a vb0 vo0 S w) (hm : Mods [] w w') : WPost T w0 a vb0 vo0 S w' :=
  h.trans fun vb vo hi => ⟨vb, vo, hi.mods hm (fun _ _ h => by cases h), hm.mono (fun _ h => by cases h), fun _ hk => Or.inl hk⟩
/-- One call more. -/
theorem WPost.call {T : TypeId} {w0 w : World} {a : Nat} {S S' : WSt} {vb0 vo0 : Value} {f : FuncId} {args : Array Value} {x : Value} (h : WPost T w0 a vb0 vo0 S w)
    (hc : ∀ vb vo, IsW T w a S vb vo → Calls Tryz.prog f args w fun e w' => e = .returned x ∧ WPost T w a vb vo S' w') : Calls Tryz.prog f args w fun e w' => e = .returned x ∧ WPost T w0 a vb0 vo0 S' w' := by
  have h' := h
  obtain ⟨vb, vo, h1, h2, h3⟩ := h
  refine (hc vb vo h1).mono fun e w' hh => ⟨hh.1, ?_⟩
  obtain ⟨vb', vo', g1, g2, g3⟩ := hh.2
  refine ⟨vb', vo', g1, h2.trans g2 h3, fun k hk => ?_⟩
  rcases g3 k hk with h | h
  · exact h3 k h
  · exact Or.inr (Nat.le_trans h2.size h)
/-- A writer that goes on from where it stood, and blocks apart from it, which stay. -/
def WAt (T : TypeId) (w0 : World) (a : Nat) (vb0 vo0 : Value) (K : Nat → Prop) (S : WSt) (w : World) : Prop :=
  ∃ vb vo, IsW T w a S vb vo ∧ Mods (foot a vb0 vo0) w0 w ∧ (∀ k ∈ foot a vb vo, k ∈ foot a vb0 vo0 ∨ w0.heap.size ≤ k) ∧ ∀ k, K k → k < w.heap.size ∧ k ∉ foot a vb vo
theorem foot_lt {T : TypeId} {w : World} {a : Nat} {S : WSt} {vb vo : Value} (h : IsW T w a S vb vo) : ∀ k ∈ foot a vb vo, k < w.heap.size := by
  intro k hk
  rcases mem_foot.1 hk with rfl | hk | hk
  · exact (Array.getElem?_eq_some_iff.1 h.cells).1
  · exact ownsRow_lt h.b k hk
  · exact ownsRow_lt h.o k hk
theorem WAt.start {T : TypeId} {w : World} {a : Nat} {S : WSt} {vb vo : Value} (h : IsW T w a S vb vo) : WAt T w a vb vo (fun _ => False) S w :=
  ⟨vb, vo, h, Mods.refl _ _, fun _ hk => Or.inl hk, fun _ hk => hk.elim⟩
theorem WAt.post {T : TypeId} {w0 w : World} {a : Nat} {S : WSt} {vb0 vo0 : Value} {K : Nat → Prop} (h : WAt T w0 a vb0 vo0 K S w) : WPost T w0 a vb0 vo0 S w := by
  obtain ⟨vb, vo, h1, h2, h3, _⟩ := h
  exact ⟨vb, vo, h1, h2, h3⟩
/-- A block more is made, and kept. -/
theorem WAt.alloc {T : TypeId} {w0 w : World} {a : Nat} {S : WSt} {vb0 vo0 : Value} {K : Nat → Prop} (h : WAt T w0 a vb0 vo0 K S w) (o : Obj) : WAt T w0 a vb0 vo0 (fun k => K k ∨ k = w.heap.size) S (w.alloc o) := by
  obtain ⟨vb, vo, h1, h2, h3, h4⟩ := h
  refine ⟨vb, vo, h1.mods ((Mods.refl [] _).alloc o) (fun _ _ h => by cases h), h2.alloc o, h3, fun k hk => ?_⟩
  rcases hk with hk | rfl
  · have := h4 k hk
    exact ⟨by simp; omega, this.2⟩
  · exact ⟨by simp, fun hm => by have := foot_lt h1 _ hm; omega⟩
theorem WAt.drewN {T : TypeId} {w0 w : World} {a : Nat} {S : WSt} {vb0 vo0 : Value} {K : Nat → Prop} (h : WAt T w0 a vb0 vo0 K S w) (n : Nat) : WAt T w0 a vb0 vo0 K S (w.drewN n) := by
  obtain ⟨vb, vo, h1, h2, h3, h4⟩ := h
  exact ⟨vb, vo, h1.drewN n, h2.drewN n, h3, h4⟩
/-- One call more: what is kept stays. -/
theorem WAt.call {T : TypeId} {w0 w : World} {a : Nat} {S S' : WSt} {vb0 vo0 : Value} {K : Nat → Prop} {f : FuncId} {args : Array Value} {x : Value} (h : WAt T w0 a vb0 vo0 K S w)
    (hc : ∀ vb vo, IsW T w a S vb vo → Calls Tryz.prog f args w fun e w' => e = .returned x ∧ WPost T w a vb vo S' w') :
    Calls Tryz.prog f args w fun e w' => e = .returned x ∧ WAt T w0 a vb0 vo0 K S' w' ∧ ∀ k, K k → w'.heap[k]? = w.heap[k]? := by
  obtain ⟨vb, vo, h1, h2, h3, h4⟩ := h
  refine (hc vb vo h1).mono fun e w' hh => ⟨hh.1, ?_⟩
  obtain ⟨vb', vo', g1, g2, g3⟩ := hh.2
  refine ⟨⟨vb', vo', g1, h2.trans g2 h3, fun k hk => ?_, fun k hk => ?_⟩, fun k hk => g2.block k (h4 k hk).1 (h4 k hk).2⟩
  · rcases g3 k hk with h | h
    · exact h3 k h
    · exact Or.inr (Nat.le_trans h2.size h)
  · have := h4 k hk
    refine ⟨Nat.lt_of_lt_of_le this.1 g2.size, fun hm => ?_⟩
    rcases g3 k hm with h | h
    · exact this.2 h
    · omega
end Go.Proofs.YtnpokdbpmnkbjaaGreatDoor
