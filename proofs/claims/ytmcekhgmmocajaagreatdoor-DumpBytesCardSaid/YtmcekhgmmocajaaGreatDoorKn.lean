/- The walk of a reader's Text. | The walk of a reader's Raw. | The walks of NewReader and a reader's Part. | The walk of same: are two lists of bytes the same? | A writer of one's own, its calls; known. -/
import Derived.Test.YtmcekhgmmocajaaGreatDoorRe
import Derived.Test.YtmcekhgmmocajaaGreatDoorGood
import Derived.Laws.BytesArg
import Derived.Test.YtmcekhgmmocajaaGreatDoorWu
import Derived.StillTailTactics
namespace Go.Proofs.YtmcekhgmmocajaaGreatDoor
open Go.RowKit Me

theorem nums_id (l : List UInt8) : (l.map fun b => (b.toNat : Int)).map (fun n => UInt8.ofNat n.toNat) = l := by
  induction l with
  | nil => rfl
  | cons x l ih => simp only [List.map_cons, ih]; simp
theorem conv_bytes {w : World} {g off : Nat} (cap : Nat) (l : List UInt8) (hc : ∀ j b, l[j]? = some b → w.cell? ⟨g, off + j, none⟩ = some (byteV b)) :
    (convert 22 9 (.slice (some ⟨g, off, none⟩) l.length cap)).run Tryz.prog w = .ok (.string ⟨l.toArray⟩) w := by
  have h := run_convert_bytes_arg (P := Tryz.prog) w 22 5 Tryz.underlying22 Tryz.underlying5 g off l.length cap (l.map fun b => (b.toNat : Int)) (by simp) (by
    intro i hi
    rw [hc i l[i] (by simp [hi])]
    simp [List.getD, hi, byteV]) 9 Tryz.underlying9
  rw [h]
  unfold strOfNums
  rw [nums_id]
theorem conv_part {w : World} {g off c p : Nat} (l : List UInt8) (hpc : c = p → l = []) (hc : ∀ j b, l[j]? = some b → w.cell? ⟨g, off + p + j, none⟩ = some (byteV b)) :
    ∀ k, (convert 22 9 (.slice (if c = p then some ⟨g, off, none⟩ else some ⟨g, off + p, none⟩) l.length (c - p))).run Tryz.prog (w.drewN k) = .ok (.string ⟨l.toArray⟩) (w.drewN k) := by
  intro k
  by_cases h : c = p
  · rw [if_pos h]
    have hl := hpc h
    subst hl
    exact conv_bytes (c - p) [] (by intro j b hj; simp at hj)
  · rw [if_neg h]
    exact conv_bytes (c - p) l hc

theorem bad_yes (l : List UInt8) (w : World) (hs : l.length ≤ maxLen) (hT : Lib.Utf8Tabs 1 2 w) (hg : Tx.good l = true) :
    Calls Tryz.prog 92 #[.string ⟨l.toArray⟩] w fun e w' => e = .returned (.int .i64 (-1)) ∧ Mods [] w w' :=
  (bad_any ⟨l.toArray⟩ w (by simpa [ByteArray.size] using hs) hT).mono fun _ _ h => ⟨by rw [h.1]; simp [badV, hg], Mods.below h.2 _⟩
theorem bad_no (l : List UInt8) (w : World) (hs : l.length ≤ maxLen) (hT : Lib.Utf8Tabs 1 2 w) (hg : Tx.good l = false) :
    Calls Tryz.prog 92 #[.string ⟨l.toArray⟩] w fun e w' => e = .returned (.int .i64 (Tx.badL l : Int)) ∧ Mods [] w w' :=
  (bad_any ⟨l.toArray⟩ w (by simpa [ByteArray.size] using hs) hT).mono fun _ _ h => ⟨by rw [h.1]; simp [badV, hg], Mods.below h.2 _⟩
theorem wrong_at {a : Nat} {S : RSt} {vb : Value} {w : World} (h : IsR 128 w a S vb) (e : Int) (n : Nat) (h1 : -9223372036854775808 ≤ e) (h2 : e ≤ 9223372036854775807) (hn : S.place + n ≤ S.bytes.length) {y : Int} (hy : y = (n : Int)) :
    Calls Tryz.prog 93 #[.pointer (some ⟨a, 0, none⟩), .int .i64 e, .int .i64 y] w fun x w' => x = .returned (.tuple #[]) ∧ RPost 128 w a vb (S.wrong e n) w' := by
  subst hy
  exact wrong_any h e n h1 h2 hn
theorem IsR.still {T : TypeId} {w w' : World} {a : Nat} {S : RSt} {vb : Value} (h : IsR T w a S vb) (hm : Mods [] w w') : IsR T w' a S vb := h.mods hm (by simp) (by simp)
theorem mods_up {F : List Nat} {w w' : World} (h : Mods [] w w') : Mods F w w' := ⟨h.os, h.tape, h.output, h.size, fun b hb _ => h.block b hb (by simp)⟩
theorem RPost.behind {T : TypeId} {w w1 w' : World} {a : Nat} {vb : Value} {S' : RSt} (hm : Mods [] w w1) (h : RPost T w1 a vb S' w') : RPost T w a vb S' w' := ⟨h.1, (mods_up hm).trans h.2 (fun _ hb => Or.inl hb)⟩

set_option maxRecDepth 100000 in
set_option maxHeartbeats 1000000 in
theorem rtext_full {a : Nat} {S : RSt} {vb : Value} {w : World} (h : IsR 128 w a S vb) (hT : Lib.Utf8Tabs 1 2 w) (n : Nat) (hcn : S.counted = (some n, S)) (he : S.err = 0) (hf : 2 + n ≤ S.rest.length) (hn : n < 65536) :
    Calls Tryz.prog 59 #[.pointer (some ⟨a, 0, none⟩)] w fun x w' => x = .returned (.string ⟨S.text.1.toArray⟩) ∧ RPost 128 w a vb S.text.2 w' := by
  have hsz := h.wf.size
  have hpl := h.wf.place
  have hfit : S.place + (2 + n) ≤ S.bytes.length := by simp [RSt.rest] at hf; omega
  obtain ⟨A, c, hvb, hlc, hcm, hcells⟩ := h.b
  obtain ⟨g, off, hA, hby⟩ := rd_bytes hvb hcells (by omega) S.place (2 + n) hfit
  subst hA
  have hpl2 : (S.part2 n).length = n := by simp [RSt.part2]; omega
  have hconv := conv_part (w := w) (g := g) (off := off) (c := c) (p := S.place + 2) (S.part2 n) (by
    intro hc
    rw [List.length_map] at hlc
    exact List.length_eq_zero_iff.1 (by omega)) (by
    intro j b hj
    have hjn : j < n := by rw [← hpl2]; exact (List.getElem?_eq_some_iff.1 hj).1
    obtain ⟨b', h1, h2⟩ := hby (2 + j) (by omega)
    have e : b' = b := by
      simp only [RSt.part2, RSt.rest, List.getElem?_take, List.getElem?_drop] at hj
      rw [if_pos hjn] at hj
      rw [List.getElem?_drop] at h1
      rw [h1] at hj
      exact Option.some.inj hj
    subst e
    rw [show off + (S.place + 2) + j = off + (S.place + (2 + j)) by omega]
    exact h2)
  rw [hpl2] at hconv
  have hszl : (⟨(S.part2 n).toArray⟩ : ByteArray).size = n := by simp [ByteArray.size, hpl2]
  have HCV := Lib.hid hconv
  clear hconv
  rw [List.length_map] at hvb hlc
  subst hvb
  have H := Lib.hid h
  have HC := Lib.hid (counted_any h)
  have HE := Lib.hid he
  have HN := Lib.hid hcn
  have HF := Lib.hid hf
  obtain ⟨c0, c1, c2, c3, c4, f1, f3, f4⟩ := cell5 h.cells
  have ht : S.text = if Tx.good (S.part2 n) then (S.part2 n, { S with place := S.place + 2 + n }) else ([], S.wrong 12 (2 + Tx.badL (S.part2 n))) := by unfold RSt.text; rw [hcn]
  have HT := Lib.hid ht
  have HBL := Lib.hid (Tx.badL_le (S.part2 n))
  have HL := Lib.hid hpl2
  clear h he hf hcells hby hcn ht hpl2 hszl
  have s1 : IntKind.i64.wrap ((S.place : Int) + 2) = (S.place : Int) + 2 := IntWalk.i64_in _ (by omega)
  have s2 : IntKind.i64.wrap ((S.place : Int) + 2 + (n : Int)) = (S.place : Int) + 2 + (n : Int) := IntWalk.i64_in _ (by omega)
  have s3 : ((S.place : Int) + 2).toNat = S.place + 2 := by omega
  have s4 : ((S.place : Int) + 2 + (n : Int)).toNat = S.place + 2 + n := by omega
  have s5 : (0 : Int) ≤ (S.place : Int) + 2 := by omega
  have s6 : (S.place : Int) + 2 ≤ (S.place : Int) + 2 + (n : Int) := by omega
  have s7 : (S.place : Int) + 2 + (n : Int) ≤ (c : Int) := by omega
  have s8 : (0 : Int) ≤ (S.place : Int) + 2 + (n : Int) := by omega
  go_enter Tryz.func59, Tryz.ntmps59
  go_wp2_with fail
  refine HC.out.mono ?_; rintro e w1 hh
  rcases hh with ⟨m, hm, _, _, _, rfl, k, rfl⟩ | ⟨m, hm, _⟩
  · obtain rfl : m = n := by rw [HN.out] at hm; simpa using hm.symm
    clear hm
    go_wp2_with fail
    refine wp_region_quiet_lit (by kernel_rfl) (by kernel_rfl) ?_
    repeat (quiet_step (fail))
    refine wpQuiet_step (fun K hK => ?_)
    go_simp
    refine ⟨.string ⟨(S.part2 m).toArray⟩, fun n' => ?_, hK _ ?_⟩
    · rw [HCV.out]
      exact ⟨rfl, rfl⟩
    clear hK K
    repeat (quiet_step (fail))
    refine wpQuiet_nil ?_
    intro _ hw'
    obtain ⟨nq, rfl⟩ := hw'
    generalize (Value.slice (if c = S.place + 2 then some ⟨g, off, none⟩ else some ⟨g, off + (S.place + 2), none⟩) m (c - (S.place + 2))) = zz
    go_wp2_with fail
    have HP := Lib.hid ((Mods.refl [] w).drewN (k + nq))
    have hTt : Lib.Utf8Tabs 1 2 (w.drewN (k + nq)) := hT
    cases hg : Tx.good (S.part2 m) with
    | true =>
      have HG := Lib.hid hg
      clear hg
      refine (bad_yes _ _ (by rw [HL.out]; unfold maxLen; omega) hTt HG.out).mono ?_; rintro e w1 ⟨rfl, hb⟩
      have HB := Lib.hid (HP.out.trans hb (fun _ h => Or.inl h))
      have HI := Lib.hid (H.out.still HB.out)
      obtain ⟨-, d1, -, -, -, g1, -, -⟩ := cell5 HI.out.cells
      clear hb hTt
      go_wp2_with fail
      go_ret
      rw [HT.out, if_pos HG.out, Nat.add_assoc]
      exact ⟨rfl, HI.out.goto (2 + m) hfit (by omega), (mods_up HB.out).setCell (p := ⟨a, 1, none⟩) (Or.inl (by simp)) _⟩
    | false =>
      have HG := Lib.hid hg
      clear hg
      refine (bad_no _ _ (by rw [HL.out]; unfold maxLen; omega) hTt HG.out).mono ?_; rintro e w1 ⟨rfl, hb⟩
      have HB := Lib.hid (HP.out.trans hb (fun _ h => Or.inl h))
      have HI := Lib.hid (H.out.still HB.out)
      clear hb hTt
      have hbl : Tx.badL (S.part2 m) ≤ m := by have := HBL.out; rw [HL.out] at this; exact this
      generalize Tx.badL (S.part2 m) = q at *
      go_wp2_with fail
      refine (wrong_at HI.out 12 (2 + q) (by omega) (by omega) (by omega) (by omega)).mono ?_; rintro e w2 ⟨rfl, hr⟩
      have HR := Lib.hid hr
      clear hr
      go_wp2_with fail
      go_ret
      rw [HT.out, if_neg (by rw [HG.out]; simp)]
      exact ⟨rfl, HR.out.behind HB.out⟩
  · rw [HN.out] at hm; simp at hm
set_option maxHeartbeats 400000 in
theorem rtext_any {a : Nat} {S : RSt} {vb : Value} {w : World} (h : IsR 128 w a S vb) (hT : Lib.Utf8Tabs 1 2 w) :
    Calls Tryz.prog 59 #[.pointer (some ⟨a, 0, none⟩)] w fun x w' => x = .returned (.string ⟨S.text.1.toArray⟩) ∧ RPost 128 w a vb S.text.2 w' := by
  cases hc : S.counted.1 with
  | some n =>
    have h1 : S.counted = (some n, S) ∧ S.err = 0 ∧ 2 + n ≤ S.rest.length ∧ n < 65536 := by
      unfold RSt.counted at hc ⊢
      by_cases he : S.err ≠ 0
      · rw [if_pos he] at hc; simp at hc
      rw [if_neg he] at hc ⊢
      by_cases h2 : S.rest.length < 2
      · rw [if_pos h2] at hc; simp at hc
      rw [if_neg h2] at hc ⊢
      by_cases h3 : S.rest.length < 2 + val (S.rest.take 2)
      · rw [if_pos h3] at hc; simp at hc
      rw [if_neg h3] at hc ⊢
      simp at hc
      subst hc
      exact ⟨rfl, by omega, by omega, val_take_lt _ 2⟩
    exact rtext_full h hT n h1.1 h1.2.1 h1.2.2.1 h1.2.2.2
  | none =>
    have ht : S.text = ([], S.counted.2) := by
      unfold RSt.text
      cases hh : S.counted with
      | mk x y => rw [hh] at hc; simp at hc; subst hc; rfl
    rw [ht]
    have HC := Lib.hid (counted_any h)
    have HN := Lib.hid hc
    clear h hc ht
    generalize S.counted = R at HC HN ⊢
    go_enter Tryz.func59, Tryz.ntmps59
    go_wp2_with fail
    refine HC.out.mono ?_; rintro e w1 hh
    rcases hh with ⟨m, hm, _⟩ | ⟨m, _, rfl, hr⟩
    · have hm2 := HN.out
      rw [hm] at hm2
      simp at hm2
    · have HR := Lib.hid hr
      clear hr
      go_wp2_with fail
      go_ret
      exact ⟨rfl, HR.out⟩
end Go.Proofs.YtmcekhgmmocajaaGreatDoor
namespace Go.Proofs.YtmcekhgmmocajaaGreatDoor
open Go.RowKit Me

/-- A piece of a slice reads as a piece of it. -/
theorem rd_part {w : World} {g off c m p n : Nat} {xs : List Value} (h : Rd w (.slice (some ⟨g, off, none⟩) m c) xs) (_hm : xs.length = m) (hp : p + n ≤ m) :
    Rd w (.slice (if c = p then some ⟨g, off, none⟩ else some ⟨g, off + p, none⟩) n (c - p)) ((xs.drop p).take n) := by
  obtain ⟨A, c', e, h1, h2, h3⟩ := h
  cases e
  have hl : ((xs.drop p).take n).length = n := by simp; omega
  refine ⟨_, _, by rw [hl], by omega, by omega, fun j u hu => ?_⟩
  have hj : j < n := by rw [← hl]; exact (List.getElem?_eq_some_iff.1 hu).1
  have hu' : xs[p + j]? = some u := by
    rw [List.getElem?_take, if_pos hj, List.getElem?_drop] at hu
    exact hu
  obtain ⟨g', off', e', hc⟩ := h3 _ _ hu'
  cases e'
  refine ⟨g, off + p, by rw [if_neg (by omega)], ?_⟩
  rw [Nat.add_assoc]
  exact hc

end Go.Proofs.YtmcekhgmmocajaaGreatDoor
namespace Go.Proofs.YtmcekhgmmocajaaGreatDoor
open Go.RowKit Me

def RSt.new (l : List UInt8) : RSt := ⟨l, 0, 0, 0, 0⟩
theorem plain_own {w : World} {base : Nat} {e : TypeId} {size : Nat} {v : Value} {n : Nat} {xs : List Value} (h : w.ownsRow base e size v n xs) : Plain v := by
  rcases ownsRow_form h with ⟨rfl, _⟩ | ⟨g, c, rfl, _⟩
  · exact Or.inl rfl
  · exact Or.inr ⟨g, 0, n, c, rfl⟩
/-- A new reader in a new block. -/
theorem isR_new (T : TypeId) {w : World} {vb : Value} {S : RSt} (hw : S.Wf) (hb : Rd w vb (S.bytes.map byteV)) (hp : Plain vb) (hl : ∀ k, vb.ownBlock = some k → k < w.heap.size) :
    IsR T (w.alloc (.cells #[vb, .int .i64 (S.place : Int), .int .i64 (S.base : Int), .int .i64 S.err, .int .i64 (S.spot : Int)] T)) w.heap.size S vb :=
  ⟨hw, heap_alloc_new w _, hb.mods (F := []) ((Mods.refl _ _).alloc _) (by simp), fun h => by have := hl _ h; omega, hp⟩

/-- What NewReader leaves. -/
def NewPost (T : TypeId) (w : World) (l : List UInt8) (e : Ending) (w' : World) : Prop :=
  ∃ a vb, e = .returned (.pointer (some ⟨a, 0, none⟩)) ∧ IsR T w' a (RSt.new l) vb ∧ w'.ownsRow w.heap.size 5 1 vb l.length (l.map byteV) ∧ w.heap.size ≤ a ∧ Mods [] w w'

set_option maxRecDepth 100000 in
set_option maxHeartbeats 400000 in
theorem newReader_any {w : World} {vx : Value} (l : List UInt8) (hx : Rd w vx (l.map byteV)) (hl : l.length ≤ 70000000000000) :
    Calls Tryz.prog 56 #[vx] w (NewPost 128 w l) := by
  have HX := Lib.hid hx
  clear hx
  obtain ⟨i0, hi, hz0, hz1, hz2⟩ := info_parts info5
  go_enter Tryz.func56, Tryz.ntmps56
  go_wp2_with (at_builtin; go_must (refine wpList_app _ rfl _ _ 22 22 rfl w.heap.size 5 i0 (.int .u8 0) 1 1 Tryz.underlying22 hi hz0 hz1 hz2 rfl (.slice none 0 0) 0 [] rfl (World.ownsRow_nil _ _ _ _) vx l.length (l.map byteV) rfl ?c1 ?c2 ?c3 ?c4 ?_))
  case c1 =>
    have h := HX.out.src Tryz.underlying22 (bytes_one _)
    rw [List.length_map] at h
    exact h
  case c2 => unfold maxLen; omega
  case c3 => omega
  case c4 => exact Nat.le_refl _
  intro v' w1 hown hgrow hat2
  obtain ⟨A', c', rfl⟩ := own_ctor hown
  have HM := Lib.hid ((Mods.refl [] w).grown hgrow (by simp [Value.ownBlock]))
  have HO := Lib.hid hown
  clear hown hgrow hat2
  have HI := Lib.hid (isR_new 128 (w := w1) (vb := .slice A' l.length c') (S := RSt.new l) ⟨Nat.zero_le _, by show 0 + l.length ≤ _; omega, Nat.zero_le _, by show _ ≤ (0 : Int); omega, by show (0 : Int) ≤ _; omega⟩ (by
    have := Rd.of_own HO.out
    simpa [RSt.new] using this) (plain_own HO.out) (ownsRow_lt HO.out))
  go_wp2_with fail
  go_ret
  refine ⟨w1.heap.size, _, rfl, HI.out, ?_, HM.out.size, HM.out.alloc _⟩
  exact ownsRow_mods (F := []) HO.out ((Mods.refl _ _).alloc _) (by simp)

/-- What Part leaves. -/
def PartPost (T : TypeId) (w : World) (a : Nat) (vb : Value) (r : RSt × RSt) (e : Ending) (w' : World) : Prop :=
  ∃ p vp, e = .returned (.pointer (some ⟨p, 0, none⟩)) ∧ IsR T w' p r.1 vp ∧ w.heap.size ≤ p ∧ (∀ k, vp.ownBlock = some k → vb.ownBlock = some k) ∧ RPost T w a vb r.2 w'

/-- A piece of a slice, its room cut too. -/
theorem rd_part3 {w : World} {g off c m p n : Nat} {xs : List Value} (h : Rd w (.slice (some ⟨g, off, none⟩) m c) xs) (hm : xs.length = m) (hp : p + n ≤ m) :
    Rd w (.slice (if n = 0 then some ⟨g, off, none⟩ else some ⟨g, off + p, none⟩) n n) ((xs.drop p).take n) := by
  have hl : ((xs.drop p).take n).length = n := by simp; omega
  obtain ⟨A, c', e, h1, h2, h3⟩ := h
  cases e
  refine ⟨_, n, by rw [hl], by omega, by omega, fun j u hu => ?_⟩
  have hj : j < n := by rw [← hl]; exact (List.getElem?_eq_some_iff.1 hu).1
  have hu' : xs[p + j]? = some u := by
    rw [List.getElem?_take, if_pos hj, List.getElem?_drop] at hu
    exact hu
  obtain ⟨g', off', e', hc⟩ := h3 _ _ hu'
  cases e'
  refine ⟨g, off + p, by rw [if_neg (by omega)], ?_⟩
  rw [Nat.add_assoc]
  exact hc
theorem counted_some {S : RSt} {n : Nat} (hc : S.counted.1 = some n) : S.counted = (some n, S) ∧ S.err = 0 ∧ 2 + n ≤ S.rest.length ∧ n < 65536 := by
  unfold RSt.counted at hc ⊢
  by_cases he : S.err ≠ 0
  · rw [if_pos he] at hc; simp at hc
  rw [if_neg he] at hc ⊢
  by_cases h2 : S.rest.length < 2
  · rw [if_pos h2] at hc; simp at hc
  rw [if_neg h2] at hc ⊢
  by_cases h3 : S.rest.length < 2 + val (S.rest.take 2)
  · rw [if_pos h3] at hc; simp at hc
  rw [if_neg h3] at hc ⊢
  simp at hc
  subst hc
  exact ⟨rfl, by omega, by omega, val_take_lt _ 2⟩
end Go.Proofs.YtmcekhgmmocajaaGreatDoor
namespace Go.Proofs.YtmcekhgmmocajaaGreatDoor
open Go.RowKit Me

theorem rd_at {w : World} {A : Option Addr} {n c : Nat} {l : List UInt8} (h : Rd w (.slice A n c) (l.map byteV)) {j : Nat} (hj : j < l.length) : ∃ g off, A = some ⟨g, off, none⟩ ∧ w.cell? ⟨g, off + j, none⟩ = some (.int .u8 (l[j].toNat : Int)) := by
  obtain ⟨A', c', e, h1, h2, h3⟩ := h
  injection e with e0 _ _
  rw [e0]
  exact h3 j (byteV l[j]) (by simp [hj])

end Go.Proofs.YtmcekhgmmocajaaGreatDoor
namespace Go.Proofs.YtmcekhgmmocajaaGreatDoor
open Go.RowKit Me

theorem tabs_mods {w w' : World} (h : Mods [] w w') (hT : Lib.Utf8Tabs 1 2 w) : Lib.Utf8Tabs 1 2 w' := tabs_keep (h.toBelow (by simp)) hT

/-- A writer that was made since w0, and nothing that was there ahead has changed since. -/
def OwnW (T : TypeId) (w0 w : World) (a : Nat) (S : WSt) : Prop := Mods [] w0 w ∧ ∃ vb vo, IsW T w a S vb vo ∧ ∀ k ∈ foot a vb vo, w0.heap.size ≤ k
theorem OwnW.next {T : TypeId} {w0 w w' : World} {a : Nat} {S' : WSt} {vb vo : Value} (hm : Mods [] w0 w) (hk : ∀ k ∈ foot a vb vo, w0.heap.size ≤ k) (h : WPost T w a vb vo S' w') : OwnW T w0 w' a S' := by
  obtain ⟨vb', vo', h1, h2, h3⟩ := h
  refine ⟨hm.trans h2 (fun b hb => Or.inr (hk b hb)), vb', vo', h1, fun k hh => ?_⟩
  rcases h3 k hh with h | h
  · exact hk k h
  · exact Nat.le_trans hm.size h
theorem OwnW.still {T : TypeId} {w0 w w' : World} {a : Nat} {S : WSt} (h : OwnW T w0 w a S) (hm : Mods [] w w') : OwnW T w0 w' a S := by
  obtain ⟨h0, vb, vo, h1, hk⟩ := h
  exact ⟨h0.trans hm (fun _ h => Or.inl h), vb, vo, h1.mods hm (fun _ _ h => by cases h), hk⟩

/-- A reader that was made since w0, and nothing that was there ahead has changed since. -/
def OwnR (T : TypeId) (w0 w : World) (a : Nat) (S : RSt) (vb : Value) : Prop := Mods [] w0 w ∧ IsR T w a S vb ∧ w0.heap.size ≤ a ∧ ∀ k, vb.ownBlock = some k → k < w.heap.size
theorem OwnR.next {T : TypeId} {w0 w w' : World} {a : Nat} {S S' : RSt} {vb : Value} (h : OwnR T w0 w a S vb) (hp : RPost T w a vb S' w') : OwnR T w0 w' a S' vb :=
  ⟨h.1.trans hp.2 (fun b hb => by simp at hb; subst hb; exact Or.inr h.2.2.1), hp.1, h.2.2.1, fun k hk => Nat.lt_of_lt_of_le (h.2.2.2 k hk) hp.2.size⟩
theorem OwnR.drewN {T : TypeId} {w0 w : World} {a : Nat} {S : RSt} {vb : Value} (h : OwnR T w0 w a S vb) (k : Nat) : OwnR T w0 (w.drewN k) a S vb := ⟨h.1.drewN k, h.2.1.drewN k, h.2.2.1, h.2.2.2⟩
/-- Another reader has gone on. -/
theorem OwnR.other {T T' : TypeId} {w0 w w' : World} {a b : Nat} {S R R' : RSt} {vb vc : Value} (h : OwnR T w0 w a S vb) (hb : OwnR T' w0 w b R vc) (hp : RPost T' w b vc R' w') (hab : a ≠ b) (hn : vb.ownBlock ≠ some b) : OwnR T w0 w' a S vb :=
  ⟨h.1.trans hp.2 (fun c hc => by simp at hc; subst hc; exact Or.inr hb.2.2.1), h.2.1.mods hp.2 (by simpa using hab) (fun k hk => by simp; intro e; subst e; exact hn hk), h.2.2.1, fun k hk => Nat.lt_of_lt_of_le (h.2.2.2 k hk) hp.2.size⟩

def k1 : WSt := ⟨20, [2, 1], [], 0⟩
def k2 : WSt := ⟨20, [2, 1, 0, 0], [2], 0⟩
def k3 : WSt := ⟨20, [2, 1, 0, 0, 7], [2], 0⟩
def k4 : WSt := ⟨20, [2, 1, 0, 0, 7, 2, 0, 97, 98], [2], 0⟩
def k5 : WSt := ⟨20, [2, 1, 5, 0, 7, 2, 0, 97, 98], [], 0⟩
def r1 : RSt := ⟨[2, 1, 5, 0, 7, 2, 0, 97, 98], 2, 0, 0, 0⟩
def r2 : RSt := ⟨[2, 1, 5, 0, 7, 2, 0, 97, 98], 9, 0, 0, 0⟩
def p0 : RSt := ⟨[7, 2, 0, 97, 98], 0, 4, 0, 0⟩
end Go.Proofs.YtmcekhgmmocajaaGreatDoor
