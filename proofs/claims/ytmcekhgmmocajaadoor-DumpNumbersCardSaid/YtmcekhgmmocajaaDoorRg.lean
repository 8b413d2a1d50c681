/- The walks of the reader's four gets. -/
import Derived.Test.YtmcekhgmmocajaaDoorRd
namespace Go.Proofs.YtmcekhgmmocajaaDoor
open Go.RowKit Me

def RelGet (w : World) (l : List UInt8) (wd : Nat) (i v : Value) (wr : World) : Prop :=
  ∃ j x k : Nat, j ≤ wd ∧ i = .int .i64 j ∧ v = .int .u64 (x : Int) ∧ x = val (l.take j) ∧ w.drewN k = wr
theorem val_take_lt (l : List UInt8) (k : Nat) : val (l.take k) < 256 ^ k := by
  have h := val_lt (l.take k)
  have h2 : (l.take k).length ≤ k := List.length_take_le _ _
  exact Nat.lt_of_lt_of_le h (Nat.pow_le_pow_right (by omega) h2)
theorem or_pow (x b j : Nat) (hx : x < 256 ^ j) : x ||| b * 256 ^ j = x + b * 256 ^ j := by
  have h : x < 2 ^ (8 * j) := by rw [Nat.pow_mul]; exact hx
  have e : 256 ^ j = 2 ^ (8 * j) := by rw [Nat.pow_mul]
  rw [e, Nat.or_comm, Nat.mul_comm, ← Nat.two_pow_add_eq_or_of_lt h b]
  omega
/-- One byte more is put into the number. -/
theorem or_step {l : List UInt8} (x : Nat) (b : UInt8) (j : Nat) (hx : x = val (l.take j)) (_hl : j < l.length) (hj : j < 8) :
    bits .or .u64 (x : Int) ((b.toNat * 256 ^ j : Nat) : Int) = ((x + b.toNat * 256 ^ j : Nat) : Int) := by
  have h1 := val_take_lt l j
  rw [← hx] at h1
  have h2 := b.toNat_lt
  have hp : 256 ^ (j + 1) ≤ 256 ^ 8 := Nat.pow_le_pow_right (by omega) (by omega)
  have h3 : x + b.toNat * 256 ^ j < 256 ^ (j + 1) := by
    rw [Nat.pow_succ]
    have : b.toNat * 256 ^ j ≤ 255 * 256 ^ j := Nat.mul_le_mul_right _ (by omega)
    omega
  have h8 : (256 : Nat) ^ 8 = 18446744073709551616 := rfl
  rw [u64_or_nat _ _ (by omega) (by omega), or_pow _ _ _ h1]
theorem take_val {l : List UInt8} {b : UInt8} {j : Nat} (h : l[j]? = some b) : val (l.take (j + 1)) = val (l.take j) + b.toNat * 256 ^ j := by
  have hl : j < l.length := (List.getElem?_eq_some_iff.1 h).1
  have he : l[j] = b := by rw [List.getElem?_eq_getElem hl] at h; exact Option.some.inj h
  rw [List.take_succ_eq_append_getElem hl, val_append, he, List.length_take, Nat.min_eq_left (by omega)]
  simp [val, Nat.mul_comm]
theorem relGet_step {w : World} {l : List UInt8} {wd j x k : Nat} {b : UInt8} {i y : Int} (hj : j < wd) (hx : x = val (l.take j)) (hb : l[j]? = some b) (hi : i = (j : Int) + 1 ∧ y = ((x + b.toNat * 256 ^ j : Nat) : Int)) :
    RelGet w l wd (.int .i64 i) (.int .u64 y) (w.drewN k) := by
  refine ⟨j + 1, x + b.toNat * 256 ^ j, k, by omega, by rw [hi.1]; rfl, by rw [hi.2], ?_, rfl⟩
  rw [take_val hb, hx]
theorem rd_bytes {w : World} {A : Option Addr} {c : Nat} {vb : Value} {l : List UInt8} (_hv : vb = .slice A (l.map byteV).length c) (h : ∀ j u, (l.map byteV)[j]? = some u → ∃ g off, A = some ⟨g, off, none⟩ ∧ w.cell? ⟨g, off + j, none⟩ = some u)
    (hl : 0 < l.length) (p n : Nat) (hp : p + n ≤ l.length) : ∃ g off, A = some ⟨g, off, none⟩ ∧ ∀ j, j < n → ∃ b : UInt8, (l.drop p)[j]? = some b ∧ w.cell? ⟨g, off + (p + j), none⟩ = some (.int .u8 (b.toNat : Int)) := by
  obtain ⟨g, off, hA, _⟩ := h 0 (byteV l[0]) (by simp [hl])
  refine ⟨g, off, hA, fun j hj => ?_⟩
  have hlt : p + j < l.length := by omega
  obtain ⟨g', off', hA', hc⟩ := h (p + j) (byteV l[p + j]) (by simp [hlt])
  rw [hA] at hA'
  cases hA'
  exact ⟨l[p + j], by simp [hlt], hc⟩
theorem conv_fit_8 (x : Nat) (h : x < 256 ^ 1) : (x : Int) % 256 = (x : Int) := by omega
theorem conv_fit_16 (x : Nat) (h : x < 256 ^ 2) : (x : Int) % 65536 = (x : Int) := by omega
theorem conv_fit_32 (x : Nat) (h : x < 256 ^ 4) : (x : Int) % 4294967296 = (x : Int) := by omega
theorem conv_fit_64 (x : Nat) (_h : x < 256 ^ 8) : True := trivial



set_option maxRecDepth 100000 in
set_option maxHeartbeats 400000 in
theorem get32_fits {a : Nat} {S : RSt} {vb : Value} {w : World} (h : IsR 103 w a S vb) (he : S.err = 0) (hf : 4 ≤ S.rest.length) :
    Calls Tryd.prog 68 #[.pointer (some ⟨a, 0, none⟩), .int .i64 4] w fun x w' => x = .returned (.int .u32 (val (S.rest.take 4) : Int)) ∧ RPost 103 w a vb { S with place := S.place + 4 } w' := by
  have H := Lib.hid h
  have HE := Lib.hid he
  have HF := Lib.hid hf
  have hsz := h.wf.size
  have hpl := h.wf.place
  have hfit : S.place + 4 ≤ S.bytes.length := by simp [RSt.rest] at hf; omega
  obtain ⟨A, c, hvb, hlc, hcm, hcells⟩ := h.b
  obtain ⟨g, off, hA, hby⟩ := rd_bytes hvb hcells (by omega) S.place 4 hfit
  subst hA
  have HB := Lib.hid hby
  rw [List.length_map] at hvb hlc
  subst hvb
  clear h he hf hcells hby
  obtain ⟨c0, c1, c2, c3, c4, f1, f3, f4⟩ := cell5 H.out.cells
  go_enter Tryd.func68, Tryd.ntmps68
  go_wp2_with fail
  refine (has_fits H.out 4 (by omega) (by omega) HE.out (by have := HF.out; omega)).mono ?_; rintro e w1 ⟨rfl, k, rfl⟩
  go_wp2_with fail
  go_loopw [12, 5] (fun i v wr => RelGet w S.rest 4 i v wr) (fun i _ _ => 4 - (intOf i).toNat)
  case atStart => exact ⟨0, 0, k, by omega, rfl, rfl, rfl, rfl⟩
  case round =>
    obtain ⟨j, x, k, hj, rfl, rfl, hx, rfl⟩ := hrel
    have HX := Lib.hid hx
    clear hx
    rcases Nat.lt_or_ge j 4 with hlt | hge
    · rcases (show j = 0 ∨ j = 1 ∨ j = 2 ∨ j = 3 by omega) with rfl | rfl | rfl | rfl
      · obtain ⟨b, hbe, b0⟩ := HB.out 0 (by omega)
        have hbl := b.toNat_lt
        have HBE := Lib.hid hbe
        clear hbe
        simp only [Nat.add_zero] at b0
        have hor : bits .or .u64 (x : Int) (b.toNat : Int) = ((x + b.toNat * 1 : Nat) : Int) := by
          have := or_step x b 0 HX.out (by have := HF.out; omega) (by omega)
          simpa using this
        go_wp2_with fail
        go_quiet (fail)
        go_wp2_with fail
        exact ⟨relGet_step (l := S.rest) (j := 0) (by omega) HX.out HBE.out ⟨by rfl, by simp⟩, by simp [intOf]⟩
      · obtain ⟨b, hbe, b0⟩ := HB.out 1 (by omega)
        have hbl := b.toNat_lt
        have HBE := Lib.hid hbe
        clear hbe
        have s1 : IntKind.i64.wrap ((S.place : Int) + 1) = (S.place : Int) + 1 := IntWalk.i64_in _ (by omega)
        have s2 : (0 : Int) ≤ (S.place : Int) + 1 := by omega
        have s3 : ((S.place : Int) + 1).toNat = S.place + 1 := by omega
        have s4 : (S.place : Int) + 1 < (S.bytes.length : Int) := by omega
        have hor : bits .or .u64 (x : Int) ((b.toNat : Int) * 256) = ((x + b.toNat * 256 : Nat) : Int) := by
          have := or_step x b 1 HX.out (by have := HF.out; omega) (by omega)
          simpa using this
        go_wp2_with fail
        go_quiet (fail)
        go_wp2_with fail
        exact ⟨relGet_step (l := S.rest) (j := 1) (by omega) HX.out HBE.out ⟨by rfl, by simp⟩, by simp [intOf]⟩
      · obtain ⟨b, hbe, b0⟩ := HB.out 2 (by omega)
        have hbl := b.toNat_lt
        have HBE := Lib.hid hbe
        clear hbe
        have s1 : IntKind.i64.wrap ((S.place : Int) + 2) = (S.place : Int) + 2 := IntWalk.i64_in _ (by omega)
        have s2 : (0 : Int) ≤ (S.place : Int) + 2 := by omega
        have s3 : ((S.place : Int) + 2).toNat = S.place + 2 := by omega
        have s4 : (S.place : Int) + 2 < (S.bytes.length : Int) := by omega
        have hor : bits .or .u64 (x : Int) ((b.toNat : Int) * 65536) = ((x + b.toNat * 65536 : Nat) : Int) := by
          have := or_step x b 2 HX.out (by have := HF.out; omega) (by omega)
          simpa using this
        go_wp2_with fail
        go_quiet (fail)
        go_wp2_with fail
        exact ⟨relGet_step (l := S.rest) (j := 2) (by omega) HX.out HBE.out ⟨by rfl, by simp⟩, by simp [intOf]⟩
      · obtain ⟨b, hbe, b0⟩ := HB.out 3 (by omega)
        have hbl := b.toNat_lt
        have HBE := Lib.hid hbe
        clear hbe
        have s1 : IntKind.i64.wrap ((S.place : Int) + 3) = (S.place : Int) + 3 := IntWalk.i64_in _ (by omega)
        have s2 : (0 : Int) ≤ (S.place : Int) + 3 := by omega
        have s3 : ((S.place : Int) + 3).toNat = S.place + 3 := by omega
        have s4 : (S.place : Int) + 3 < (S.bytes.length : Int) := by omega
        have hor : bits .or .u64 (x : Int) ((b.toNat : Int) * 16777216) = ((x + b.toNat * 16777216 : Nat) : Int) := by
          have := or_step x b 3 HX.out (by have := HF.out; omega) (by omega)
          simpa using this
        go_wp2_with fail
        go_quiet (fail)
        go_wp2_with fail
        exact ⟨relGet_step (l := S.rest) (j := 3) (by omega) HX.out HBE.out ⟨by rfl, by simp⟩, by simp [intOf]⟩
    · obtain rfl : j = 4 := by omega
      have hv := HX.out ▸ val_take_lt S.rest 4
      have HV := Lib.hid hv
      clear hv
      have hk1 : (w.drewN k).cell? ⟨a, 1, none⟩ = some (.int .i64 (S.place : Int)) := c1
      have hk2 : (w.drewN k).frozen? ⟨a, 1, none⟩ = false := f1
      have hcv := conv_fit_32 x (by have := HX.out; have := val_take_lt S.rest 4; omega)
      go_wp2_with fail
      go_ret
      exact ⟨by rw [← HX.out]; rfl, ((H.out.drewN k).goto 4 hfit rfl), ((Mods.refl _ _).drewN k).setCell (p := ⟨a, 1, none⟩) (Or.inl (by simp)) _⟩
set_option maxHeartbeats 400000 in
theorem get32_any {a : Nat} {S : RSt} {vb : Value} {w : World} (h : IsR 103 w a S vb) :
    Calls Tryd.prog 68 #[.pointer (some ⟨a, 0, none⟩), .int .i64 4] w fun x w' => x = .returned (.int .u32 ((S.get 4).1 : Int)) ∧ RPost 103 w a vb (S.get 4).2 w' := by
  unfold RSt.get
  by_cases he : S.err = 0
  · rw [if_neg (by simp [he])]
    by_cases hf : S.rest.length < 4
    · rw [if_pos hf]
      have H := Lib.hid h
      have HE := Lib.hid he
      have HF := Lib.hid hf
      clear h he hf
      go_enter Tryd.func68, Tryd.ntmps68
      go_wp2_with fail
      refine (has_short H.out 4 (by omega) (by omega) HE.out (by have := HF.out; omega)).mono ?_; rintro e w1 ⟨rfl, hr⟩
      have HP := Lib.hid hr
      clear hr
      go_wp2_with fail
      go_ret
      exact ⟨rfl, HP.out⟩
    · rw [if_neg hf]
      exact get32_fits h he (by omega)
  · rw [if_pos he]
    have H := Lib.hid h
    have HE := Lib.hid he
    clear h he
    go_enter Tryd.func68, Tryd.ntmps68
    go_wp2_with fail
    refine (has_err H.out 4 (by omega) (by omega) HE.out).mono ?_; rintro e w1 ⟨rfl, rfl⟩
    go_wp2_with fail
    go_ret
    exact ⟨rfl, RPost.self H.out⟩

end Go.Proofs.YtmcekhgmmocajaaDoor
