/- The walks of a reader's U8, U16, U32, U64 and counted. -/
import Derived.Test.YtmcekhgmmocajaaDoorRg
namespace Go.Proofs.YtmcekhgmmocajaaDoor
open Go.RowKit Me
theorem ru32_any {a : Nat} {S : RSt} {vb : Value} {w : World} (h : IsR 103 w a S vb) :
    Calls Tryd.prog 45 #[.pointer (some ⟨a, 0, none⟩)] w fun x w' => x = .returned (.int .u32 ((S.get 4).1 : Int)) ∧ RPost 103 w a vb (S.get 4).2 w' := by
  have HG := Lib.hid (get32_any h)
  clear h
  generalize S.get 4 = R at HG ⊢
  go_enter Tryd.func45, Tryd.ntmps45
  go_wp2_with fail
  refine HG.out.mono ?_; rintro e w1 ⟨rfl, hr⟩
  have HP := Lib.hid hr
  clear hr
  go_wp2_with fail
  go_ret
  exact ⟨rfl, HP.out⟩

theorem i64_or_nat (a b : Nat) (ha : a < 4294967296) (hb : b < 4294967296) : bits .or .i64 (a : Int) (b : Int) = ((a ||| b : Nat) : Int) := by
  have hx : a ||| b < 2 ^ 32 := Nat.or_lt_two_pow (by omega) (by omega)
  show IntKind.i64.wrap ((BitVec.ofInt 64 (a : Int) ||| BitVec.ofInt 64 (b : Int)).toNat : Int) = _
  rw [BitVec.toNat_or, ofInt_u64 a (by omega), ofInt_u64 b (by omega)]
  exact IntWalk.i64_in _ (by omega)
theorem count_or (x y : UInt8) : bits .or .i64 (x.toNat : Int) ((y.toNat : Int) * 256) = ((val [x, y] : Nat) : Int) := by
  have h := i64_or_nat x.toNat (y.toNat * 256) (by have := x.toNat_lt; omega) (by have := y.toNat_lt; omega)
  have e : x.toNat ||| y.toNat * 256 = x.toNat + y.toNat * 256 := or_pow x.toNat y.toNat 1 x.toNat_lt
  rw [e] at h
  have e2 : ((y.toNat * 256 : Nat) : Int) = (y.toNat : Int) * 256 := by omega
  rw [e2] at h
  rw [h]
  simp only [val]
  congr 1
  omega
set_option maxRecDepth 100000 in
set_option maxHeartbeats 1000000 in
theorem counted_two {a : Nat} {S : RSt} {vb : Value} {w : World} (h : IsR 103 w a S vb) (he : S.err = 0) (hf : 2 ≤ S.rest.length) :
    Calls Tryd.prog 69 #[.pointer (some ⟨a, 0, none⟩)] w fun x w' =>
      (S.rest.length < 2 + val (S.rest.take 2) ∧ x = .returned (.tuple #[.int .i64 (val (S.rest.take 2) : Int), .bool false]) ∧ RPost 103 w a vb (S.wrong 10 0) w') ∨
      (2 + val (S.rest.take 2) ≤ S.rest.length ∧ x = .returned (.tuple #[.int .i64 (val (S.rest.take 2) : Int), .bool true]) ∧ ∃ k, w.drewN k = w') := by
  have hsz := h.wf.size
  have hpl := h.wf.place
  have hfit : S.place + 2 ≤ S.bytes.length := by simp [RSt.rest] at hf; omega
  obtain ⟨A, c, hvb, hlc, hcm, hcells⟩ := h.b
  obtain ⟨g, off, hA, hby⟩ := rd_bytes hvb hcells (by omega) S.place 2 hfit
  subst hA
  rw [List.length_map] at hvb hlc
  obtain ⟨x, hx, b0⟩ := hby 0 (by omega)
  obtain ⟨y, hy, b1⟩ := hby 1 (by omega)
  have hval : S.rest.take 2 = [x, y] := by
    have h0 : S.rest = S.bytes.drop S.place := rfl
    rw [h0]
    match hl : S.bytes.drop S.place, hx, hy with
    | p :: q :: r, hx, hy => simp at hx hy; subst hx hy; rfl
  have hlt : val (S.rest.take 2) < 65536 := val_take_lt _ 2
  rw [hval] at hlt ⊢
  have HV := Lib.hid (count_or x y)
  have H := Lib.hid h
  have HE := Lib.hid he
  have HF := Lib.hid hf
  subst hvb
  have hxl := x.toNat_lt
  have hyl := y.toNat_lt
  obtain ⟨c0, c1, c2, c3, c4, f1, f3, f4⟩ := cell5 h.cells
  clear h he hf hcells hby hval hx hy
  generalize hvv : val [x, y] = n at HV hlt ⊢
  clear hvv
  simp only [Nat.add_zero] at b0
  have s1 : IntKind.i64.wrap ((S.place : Int) + 1) = (S.place : Int) + 1 := IntWalk.i64_in _ (by omega)
  have s2 : (0 : Int) ≤ (S.place : Int) + 1 := by omega
  have s3 : ((S.place : Int) + 1).toNat = S.place + 1 := by omega
  have s4 : (S.place : Int) + 1 < (S.bytes.length : Int) := by omega
  have s5 : (S.place : Int) < (S.bytes.length : Int) := by omega
  have hor := HV.out
  go_enter Tryd.func69, Tryd.ntmps69
  go_wp2_with fail
  refine (has_fits H.out 2 (by omega) (by omega) HE.out (by have := HF.out; omega)).mono ?_; rintro e w1 ⟨rfl, k, rfl⟩
  go_wp2_with fail
  go_quiet (fail)
  go_wp2_with fail
  refine (has_any (H.out.drewN _) (2 + (n : Int)) (by omega) (by omega)).mono ?_; rintro e w1 hh
  rcases hh with ⟨he, _, _⟩ | ⟨_, hs, rfl, hr⟩ | ⟨_, hs, rfl, k2, rfl⟩
  · exact absurd HE.out he
  · have HP := Lib.hid hr
    clear hr
    go_wp2_with fail
    go_ret2
    exact Or.inl ⟨by omega, rfl, HP.out.1, ((Mods.refl _ _).drewN _).trans HP.out.2 (fun b hb => Or.inl hb)⟩
  · go_wp2_with fail
    go_ret2
    exact Or.inr ⟨by omega, rfl, _, rfl⟩
set_option maxHeartbeats 400000 in
/-- counted, whatever the reader is. -/
theorem counted_any {a : Nat} {S : RSt} {vb : Value} {w : World} (h : IsR 103 w a S vb) :
    Calls Tryd.prog 69 #[.pointer (some ⟨a, 0, none⟩)] w fun x w' =>
      (∃ n, S.counted = (some n, S) ∧ S.err = 0 ∧ 2 + n ≤ S.rest.length ∧ n < 65536 ∧ x = .returned (.tuple #[.int .i64 (n : Int), .bool true]) ∧ ∃ k, w.drewN k = w') ∨
      (∃ m : Int, S.counted.1 = none ∧ x = .returned (.tuple #[.int .i64 m, .bool false]) ∧ RPost 103 w a vb S.counted.2 w') := by
  by_cases he : S.err = 0
  · by_cases hf : S.rest.length < 2
    · have e1 : S.counted = (none, S.wrong 10 0) := by unfold RSt.counted; rw [if_neg (by simp [he]), if_pos hf]
      rw [e1]
      have H := Lib.hid h
      have HE := Lib.hid he
      have HF := Lib.hid hf
      clear h he hf e1
      go_enter Tryd.func69, Tryd.ntmps69
      go_wp2_with fail
      refine (has_short H.out 2 (by omega) (by omega) HE.out (by have := HF.out; omega)).mono ?_; rintro e w1 ⟨rfl, hr⟩
      have HP := Lib.hid hr
      clear hr
      go_wp2_with fail
      go_ret2
      exact Or.inr ⟨0, trivial, rfl, HP.out⟩
    · refine (counted_two h he (by omega)).mono ?_
      rintro x w' (⟨h1, h2, h3⟩ | ⟨h1, h2, h3⟩)
      · have e1 : S.counted = (none, S.wrong 10 0) := by unfold RSt.counted; rw [if_neg (by simp [he]), if_neg hf, if_pos h1]
        rw [e1]
        exact Or.inr ⟨_, rfl, h2, h3⟩
      · have e1 : S.counted = (some (val (S.rest.take 2)), S) := by unfold RSt.counted; rw [if_neg (by simp [he]), if_neg hf, if_neg (by omega)]
        exact Or.inl ⟨_, e1, he, h1, val_take_lt _ 2, h2, h3⟩
  · have e1 : S.counted = (none, S) := by unfold RSt.counted; rw [if_pos he]
    rw [e1]
    have H := Lib.hid h
    have HE := Lib.hid he
    clear h he e1
    go_enter Tryd.func69, Tryd.ntmps69
    go_wp2_with fail
    refine (has_err H.out 2 (by omega) (by omega) HE.out).mono ?_; rintro e w1 ⟨rfl, rfl⟩
    go_wp2_with fail
    go_ret2
    exact Or.inr ⟨0, trivial, rfl, RPost.self H.out⟩
end Go.Proofs.YtmcekhgmmocajaaDoor
