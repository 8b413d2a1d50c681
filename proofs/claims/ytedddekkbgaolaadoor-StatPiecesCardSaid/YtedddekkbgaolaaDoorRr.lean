/- The walk of a reader's Raw. -/
import Derived.Test.YtedddekkbgaolaaDoorRt
import Derived.Test.YtedddekkbgaolaaDoorWu
import Derived.StillTailTactics
namespace Go.Proofs.YtedddekkbgaolaaDoor
open Go.RowKit Me

/-- A piece of a slice reads as a piece of it. -/
theorem rd_part {w : World} {g off c m p n : Nat} {xs : List Value} (h : Rd w (.slice (some ⟨g, off, none⟩) m c) xs) (_hm : xs.length = m) (hp : p + n ≤ m) :
    Rd w (.slice (if c = p then some ⟨g, off, none⟩ else some ⟨g, off + p, none⟩) n (c - p)) ((xs.drop p).take n) := by
  obtain ⟨A, c', e, h1, h2, h3⟩ := h
  cases e
  have hl : ((xs.drop p).take n).length = n := by simp; omega
  refine ⟨_, _, by rw [hl], by omega, by omega, fun j u hu => ?_⟩
  have hj : j < n := by rw [← hl]; exact (List.getElem?_eq_some_iff.1 hu).1
  have hu' : xs[p + j]? = some u := by
    rw [List.getElem?_take, if_pos hj, List.getElem?_drop] at hu
    exact hu
  obtain ⟨g', off', e', hc⟩ := h3 _ _ hu'
  cases e'
  refine ⟨g, off + p, by rw [if_neg (by omega)], ?_⟩
  rw [Nat.add_assoc]
  exact hc
/-- What raw gives back. -/
def RawPost (w : World) (a : Nat) (vb : Value) (r : List UInt8 × RSt) (e : Ending) (w' : World) : Prop :=
  ∃ v, e = .returned v ∧ w'.ownsRow w.heap.size 5 1 v r.1.length (r.1.map byteV) ∧ RPost 130 w a vb r.2 w'

set_option maxRecDepth 100000 in
set_option maxHeartbeats 1000000 in
theorem rraw_fits {a g off c : Nat} {S : RSt} {w : World} (h : IsR 130 w a S (.slice (some ⟨g, off, none⟩) S.bytes.length c)) (n : Nat) (he : S.err = 0) (hf : n ≤ S.rest.length) :
    Calls Tryd.prog 48 #[.pointer (some ⟨a, 0, none⟩), .int .i64 (n : Int)] w (RawPost w a (.slice (some ⟨g, off, none⟩) S.bytes.length c) (S.rest.take n, { S with place := S.place + n })) := by
  have hsz := h.wf.size
  have hpl := h.wf.place
  have hfit : S.place + n ≤ S.bytes.length := by simp [RSt.rest] at hf; omega
  have hln : (S.rest.take n).length = n := by simp; omega
  have hpt : ((S.bytes.map byteV).drop S.place).take n = (S.rest.take n).map byteV := by rw [RSt.rest, List.map_take, List.map_drop]
  have hrp := rd_part h.b (by simp) hfit
  rw [hpt] at hrp
  have HRP := Lib.hid hrp
  have hc : S.bytes.length ≤ c := by
    obtain ⟨A, c', e, h1, h2⟩ := rd_slice h.b
    cases e
    exact h1
  have hab : w.heap.size > a := by have := h.cells; exact (Array.getElem?_eq_some_iff.1 this).1
  have H := Lib.hid h
  have HE := Lib.hid he
  have HF := Lib.hid hf
  have HL := Lib.hid hln
  obtain ⟨c0, c1, c2, c3, c4, f1, f3, f4⟩ := cell5 h.cells
  clear h he hf hrp hpt hln
  have s1 : IntKind.i64.wrap ((S.place : Int) + (n : Int)) = (S.place : Int) + (n : Int) := IntWalk.i64_in _ (by omega)
  have s4 : ((S.place : Int) + (n : Int)).toNat = S.place + n := by omega
  have s6 : (S.place : Int) ≤ (S.place : Int) + (n : Int) := by omega
  have s7 : (S.place : Int) + (n : Int) ≤ (c : Int) := by omega
  have s8 : (0 : Int) ≤ (S.place : Int) + (n : Int) := by omega
  have s9 : S.place + n - S.place = n := by omega
  obtain ⟨i0, hi, hz0, hz1, hz2⟩ := info_parts info5
  go_enter Tryd.func48, Tryd.ntmps48
  go_wp2_with fail
  refine (has_fits H.out (n : Int) (by omega) (by omega) HE.out (by have := HF.out; omega)).mono ?_; rintro e w1 ⟨rfl, k, hk⟩
  have d0 : w1.cell? ⟨a, 0, none⟩ = some (.slice (some ⟨g, off, none⟩) S.bytes.length c) := by rw [← hk]; exact c0
  have d1 : w1.cell? ⟨a, 1, none⟩ = some (.int .i64 (S.place : Int)) := by rw [← hk]; exact c1
  have hm : Mods [] w w1.drew := by rw [← hk]; exact ((Mods.refl _ _).drewN k).drew
  have HM := Lib.hid hm
  clear hk hm
  go_wp2_with fail
  go_still_tail 15, (by kernel_rfl)
  change wpList _ _ _ _ _ w1.drew
  generalize w1.drew = w2 at *
  generalize hz : (Value.slice (if c = S.place then some ⟨g, off, none⟩ else some ⟨g, off + S.place, none⟩) n (c - S.place)) = zz at *
  have HZ := Lib.hid hz
  clear hz
  go_wp2_with (at_builtin; go_must (refine wpList_app _ rfl _ _ 43 43 rfl w.heap.size 5 i0 (.int .u8 0) 1 1 Tryd.underlying43 hi hz0 hz1 hz2 rfl (.slice none 0 0) 0 [] rfl (World.ownsRow_nil _ _ _ _) _ n ((S.rest.take n).map byteV) rfl ?c1 ?c2 ?c3 ?c4 ?_))
  case c1 =>
    have h := (HRP.out.mods HM.out (by simp)).src Tryd.underlying43 (bytes_one _)
    rw [List.length_map, HL.out] at h
    exact h
  case c2 => unfold maxLen; omega
  case c3 => omega
  case c4 => exact HM.out.size
  intro v' w3 hown hgrow hat2
  have HM2 := Lib.hid (HM.out.grown hgrow (by simp [Value.ownBlock]))
  have HI := Lib.hid (H.out.still HM2.out)
  obtain ⟨-, d1', -, -, -, g1, -, -⟩ := cell5 HI.out.cells
  have HO := Lib.hid hown
  clear hown hgrow hat2
  go_wp2_with fail
  go_ret
  refine ⟨v', rfl, ?_, HI.out.goto n hfit rfl, (mods_up HM2.out).setCell (p := ⟨a, 1, none⟩) (Or.inl (by simp)) _⟩
  have hS := ownsRow_mods (F := [a]) HO.out ((Mods.refl _ _).setCell (p := ⟨a, 1, none⟩) (Or.inl (by simp)) (.int .i64 ((S.place : Int) + (n : Int)))) (by
    intro b hb hm
    simp at hm
    subst hm
    have := (HO.out.lt b hb).1
    omega)
  rw [HL.out]
  simpa using hS
set_option maxRecDepth 100000 in
set_option maxHeartbeats 1000000 in
theorem rraw_nil {a : Nat} {S : RSt} {w : World} (h : IsR 130 w a S (.slice none 0 0)) (he : S.err = 0) (hp : S.place = 0) (hb : S.bytes = []) :
    Calls Tryd.prog 48 #[.pointer (some ⟨a, 0, none⟩), .int .i64 0] w (RawPost w a (.slice none 0 0) ([], S)) := by
  have H := Lib.hid h
  have HE := Lib.hid he
  have HPL := Lib.hid hp
  have hab : w.heap.size > a := by have := h.cells; exact (Array.getElem?_eq_some_iff.1 this).1
  have HP := Lib.hid (show S.place + 0 ≤ S.bytes.length by omega)
  have HR : S.rest = [] := by simp [RSt.rest, hb]
  have hf : (0 : Int) ≤ (S.rest.length : Int) := by rw [HR]; simp
  obtain ⟨c0, c1, c2, c3, c4, f1, f3, f4⟩ := cell5 h.cells
  rw [hp] at c1
  have s0 : IntKind.i64.wrap 0 = 0 := by decide
  clear h he hp hb HR
  obtain ⟨i0, hi, hz0, hz1, hz2⟩ := info_parts info5
  go_enter Tryd.func48, Tryd.ntmps48
  go_wp2_with fail
  refine (has_fits H.out 0 (by omega) (by omega) HE.out hf).mono ?_; rintro e w1 ⟨rfl, k, hk⟩
  have d0 : w1.cell? ⟨a, 0, none⟩ = some (.slice none 0 0) := by rw [← hk]; exact c0
  have d1 : w1.cell? ⟨a, 1, none⟩ = some (.int .i64 0) := by rw [← hk]; exact c1
  have hm : Mods [] w w1.drew := by rw [← hk]; exact ((Mods.refl _ _).drewN k).drew
  have HM := Lib.hid hm
  clear hk hm
  go_wp2_with fail
  go_still_tail 15, (by kernel_rfl)
  change wpList _ _ _ _ _ w1.drew
  generalize w1.drew = w2 at *
  go_wp2_with (at_builtin; go_must (refine wpList_app _ rfl _ _ 43 43 rfl w.heap.size 5 i0 (.int .u8 0) 1 1 Tryd.underlying43 hi hz0 hz1 hz2 rfl (.slice none 0 0) 0 [] rfl (World.ownsRow_nil _ _ _ _) _ 0 [] rfl ?c1 ?c2 ?c3 ?c4 ?_))
  case c1 => exact Src.ofNil _ Tryd.underlying43 _
  case c2 => unfold maxLen; omega
  case c3 => omega
  case c4 => exact HM.out.size
  intro v' w3 hown hgrow hat2
  have HM2 := Lib.hid (HM.out.grown hgrow (by simp [Value.ownBlock]))
  have HI := Lib.hid (H.out.still HM2.out)
  obtain ⟨-, -, -, -, -, g1, -, -⟩ := cell5 HI.out.cells
  have d1' : w3.cell? ⟨a, 1, none⟩ = some (.int .i64 0) := by
    have := (cell5 HI.out.cells).2.1
    rw [this, HPL.out]
    rfl
  have HO := Lib.hid hown
  clear hown hgrow hat2
  go_wp2_with fail
  go_ret
  refine ⟨v', rfl, ?_, HI.out.goto 0 HP.out (by rw [HPL.out]; rfl), (mods_up HM2.out).setCell (p := ⟨a, 1, none⟩) (Or.inl (by simp)) _⟩
  have hS := ownsRow_mods (F := [a]) HO.out ((Mods.refl _ _).setCell (p := ⟨a, 1, none⟩) (Or.inl (by simp)) (.int .i64 0)) (by
    intro b hb hm
    simp at hm
    subst hm
    have := (HO.out.lt b hb).1
    omega)
  simpa using hS
theorem rraw_any {a : Nat} {S : RSt} {vb : Value} {w : World} (h : IsR 130 w a S vb) (n : Int) (hn1 : -9223372036854775808 ≤ n) (hn2 : n ≤ 9223372036854775807) :
    Calls Tryd.prog 48 #[.pointer (some ⟨a, 0, none⟩), .int .i64 n] w (RawPost w a vb (S.raw n)) := by
  unfold RSt.raw
  have hpl := h.wf.place
  by_cases hn : n < 0
  · have hw : (if S.err ≠ 0 then (([] : List UInt8), S) else if n < 0 then ([], S.wrong 1 0) else if (S.rest.length : Int) < n then ([], S.wrong 10 0) else (S.rest.take n.toNat, { S with place := S.place + n.toNat })) = ([], S.wrong 1 0) := by
      by_cases he : S.err ≠ 0
      · rw [if_pos he]; unfold RSt.wrong; rw [if_neg (by simp [he])]
      · rw [if_neg he, if_pos hn]
    rw [hw]
    have H := Lib.hid (wrong_any h 1 0 (by omega) (by omega) (by omega))
    clear h hw
    go_enter Tryd.func48, Tryd.ntmps48
    go_wp2_with fail
    refine H.out.mono ?_; rintro e w1 ⟨rfl, hr⟩
    have HR := Lib.hid hr
    clear hr
    go_wp2_with fail
    go_ret
    exact ⟨_, rfl, World.ownsRow_nil _ _ _ _, HR.out⟩
  · by_cases he : S.err ≠ 0
    · rw [if_pos he]
      have H := Lib.hid (has_err h n (by omega) (by omega) he)
      have HI := Lib.hid h
      clear h he
      go_enter Tryd.func48, Tryd.ntmps48
      go_wp2_with fail
      refine H.out.mono ?_; rintro e w1 ⟨rfl, rfl⟩
      go_wp2_with fail
      go_ret
      exact ⟨_, rfl, World.ownsRow_nil _ _ _ _, RPost.self HI.out⟩
    · rw [if_neg he, if_neg hn]
      by_cases hf : (S.rest.length : Int) < n
      · rw [if_pos hf]
        have H := Lib.hid (has_short h n (by omega) (by omega) (by simpa using he) hf)
        clear h he hf
        go_enter Tryd.func48, Tryd.ntmps48
        go_wp2_with fail
        refine H.out.mono ?_; rintro e w1 ⟨rfl, hr⟩
        have HR := Lib.hid hr
        clear hr
        go_wp2_with fail
        go_ret
        exact ⟨_, rfl, World.ownsRow_nil _ _ _ _, HR.out⟩
      · rw [if_neg hf]
        obtain ⟨A, c, hvb, h1, h2⟩ := rd_slice h.b
        have hz : n = (n.toNat : Int) := by omega
        have he' : S.err = 0 := by simpa using he
        rcases h.pl with rfl | ⟨g, off, m, c', rfl⟩
        · injection hvb with _ e2 _
          have hb : S.bytes = [] := List.eq_nil_of_length_eq_zero e2.symm
          have hp : S.place = 0 := by rw [hb] at hpl; simpa using hpl
          have hr : S.rest = [] := by simp [RSt.rest, hb]
          have h0 : n = 0 := by rw [hr] at hf; simp at hf; omega
          have := rraw_nil h he' hp hb
          rw [h0, hr]
          exact this
        · injection hvb with e1 e2 e3
          subst e2
          have := rraw_fits h n.toNat he' (by omega)
          rw [← hz] at this
          exact this
end Go.Proofs.YtedddekkbgaolaaDoor
