/- A reader in memory: what it means that one stands in a block, and the walks of wrong, has, Left, At, Err, End, Fail. | The walks of the reader's four gets. | The walks of a reader's U8, U16, U32, U64 and counted. -/
import Derived.Test.YtmcekhgmmocajaaGreatDoorWu
import Derived.Test.YtmcekhgmmocajaaGreatDoorRead
namespace Go.Proofs.YtmcekhgmmocajaaGreatDoor
open Go.RowKit Me

/-- A slice's value: nothing, or a place of a row. -/
def Plain (v : Value) : Prop := v = .slice none 0 0 ∨ ∃ g off n c, v = .slice (some ⟨g, off, none⟩) n c
/-- A reader stands in block a; its bytes lie elsewhere. -/
structure IsR (T : TypeId) (w : World) (a : Nat) (S : RSt) (vb : Value) : Prop where
  wf : S.Wf
  cells : w.heap[a]? = some (.cells #[vb, .int .i64 (S.place : Int), .int .i64 (S.base : Int), .int .i64 S.err, .int .i64 (S.spot : Int)] T (0, 0))
  b : Rd w vb (S.bytes.map byteV)
  na : vb.ownBlock ≠ some a
  pl : Plain vb

theorem cell5 {w : World} {a : Nat} {x0 x1 x2 x3 x4 : Value} {T : TypeId} (h : w.heap[a]? = some (.cells #[x0, x1, x2, x3, x4] T (0, 0))) :
    w.cell? ⟨a, 0, none⟩ = some x0 ∧ w.cell? ⟨a, 1, none⟩ = some x1 ∧ w.cell? ⟨a, 2, none⟩ = some x2 ∧ w.cell? ⟨a, 3, none⟩ = some x3 ∧ w.cell? ⟨a, 4, none⟩ = some x4 ∧
    w.frozen? ⟨a, 1, none⟩ = false ∧ w.frozen? ⟨a, 3, none⟩ = false ∧ w.frozen? ⟨a, 4, none⟩ = false := by
  refine ⟨?_, ?_, ?_, ?_, ?_, frozen_of_row _ _ _ _ _ h, frozen_of_row _ _ _ _ _ h, frozen_of_row _ _ _ _ _ h⟩ <;> (rw [cell_of_row _ _ _ _ _ _ h]; rfl)

theorem IsR.mods {T : TypeId} {w w' : World} {a : Nat} {S : RSt} {vb : Value} {F : List Nat} (h : IsR T w a S vb) (hm : Mods F w w') (h1 : a ∉ F) (h2 : ∀ k, vb.ownBlock = some k → k ∉ F) : IsR T w' a S vb :=
  ⟨h.wf, hm.heap h.cells h1, h.b.mods hm h2, h.na, h.pl⟩
theorem IsR.drewN {T : TypeId} {w : World} {a : Nat} {S : RSt} {vb : Value} (h : IsR T w a S vb) (k : Nat) : IsR T (w.drewN k) a S vb := ⟨h.wf, h.cells, h.b, h.na, h.pl⟩
theorem Rd.set {w : World} {v : Value} {xs : List Value} (h : Rd w v xs) {a : Addr} (hn : v.ownBlock ≠ some a.block) (u : Value) : Rd (w.setCell a u) v xs :=
  h.mods (F := [a.block]) ((Mods.refl _ _).setCell (Or.inl (by simp)) u) (by intro k hk hm; simp at hm; subst hm; exact hn hk)
/-- A reader goes wrong. -/
theorem IsR.bad {T : TypeId} {w : World} {a : Nat} {S : RSt} {vb : Value} (h : IsR T w a S vb) {e : Int} (n : Nat) (he : S.err = 0) (h0 : e ≠ 0) (h1 : -9223372036854775808 ≤ e) (h2 : e ≤ 9223372036854775807) (hn : S.place + n ≤ S.bytes.length) {y : Int} (hy : y = (S.base : Int) + S.place + n) :
    IsR T ((w.setCell ⟨a, 3, none⟩ (.int .i64 e)).setCell ⟨a, 4, none⟩ (.int .i64 y)).drew a (S.wrong e n) vb := by
  have hw := h.wf.wrong h1 h2 hn
  unfold RSt.wrong at hw ⊢
  rw [if_pos ⟨he, h0⟩] at hw ⊢
  refine ⟨hw, ?_, (h.b.set (a := ⟨a, 3, none⟩) h.na _).set (a := ⟨a, 4, none⟩) h.na _, h.na, h.pl⟩
  show ((w.setCell ⟨a, 3, none⟩ (.int .i64 e)).setCell ⟨a, 4, none⟩ (.int .i64 y)).heap[a]? = _
  rw [heap_setCell_same _ _ _ _ _ _ (heap_setCell_same _ _ _ _ _ _ h.cells), hy]
  rfl
theorem IsR.goto {T : TypeId} {w : World} {a : Nat} {S : RSt} {vb : Value} (h : IsR T w a S vb) (k : Nat) (hk : S.place + k ≤ S.bytes.length) {y : Int} (hy : y = (S.place : Int) + k) :
    IsR T (w.setCell ⟨a, 1, none⟩ (.int .i64 y)) a { S with place := S.place + k } vb := by
  refine ⟨h.wf.go hk, ?_, h.b.set (a := ⟨a, 1, none⟩) h.na _, h.na, h.pl⟩
  rw [heap_setCell_same _ _ _ _ _ _ h.cells, hy]
  rfl

/-- What a call of a reader leaves. -/
def RPost (T : TypeId) (w : World) (a : Nat) (vb : Value) (S' : RSt) (w' : World) : Prop := IsR T w' a S' vb ∧ Mods [a] w w'
theorem RPost.same {T : TypeId} {w : World} {a : Nat} {S : RSt} {vb : Value} (h : IsR T w a S vb) (k : Nat) : RPost T w a vb S (w.drewN k) := ⟨h.drewN k, (Mods.refl _ _).drewN k⟩
theorem RPost.self {T : TypeId} {w : World} {a : Nat} {S : RSt} {vb : Value} (h : IsR T w a S vb) : RPost T w a vb S w := ⟨h, Mods.refl _ _⟩

set_option maxHeartbeats 400000 in
theorem wrong_any {a : Nat} {S : RSt} {vb : Value} {w : World} (h : IsR 128 w a S vb) (e : Int) (n : Nat) (h1 : -9223372036854775808 ≤ e) (h2 : e ≤ 9223372036854775807) (hn : S.place + n ≤ S.bytes.length) :
    Calls Tryz.prog 93 #[.pointer (some ⟨a, 0, none⟩), .int .i64 e, .int .i64 (n : Int)] w fun x w' => x = .returned (.tuple #[]) ∧ RPost 128 w a vb (S.wrong e n) w' := by
  obtain ⟨c0, c1, c2, c3, c4, f1, f3, f4⟩ := cell5 h.cells
  have hsz := h.wf.size
  by_cases he : S.err = 0
  · by_cases h0 : e = 0
    · have hw : S.wrong e n = S := by unfold RSt.wrong; rw [if_neg (by simp [h0])]
      rw [hw]
      subst h0
      have H := Lib.hid h
      rw [he] at c3
      clear h he hw
      go_enter Tryz.func93, Tryz.ntmps93
      go_wp2_with fail
      go_end0
      exact ⟨rfl, RPost.self H.out⟩
    · have H := Lib.hid (h.bad n he h0 h1 h2 hn rfl)
      rw [he] at c3
      have he' : (e != 0) = true := by rw [bne_iff_ne]; exact h0
      clear h0 he h
      go_enter Tryz.func93, Tryz.ntmps93
      go_wp2_with fail
      go_region
      go_wp2_with fail
      go_end0
      exact ⟨rfl, H.out, (((Mods.refl _ _).setCell (p := ⟨a, 3, none⟩) (Or.inl (by simp)) _).setCell (p := ⟨a, 4, none⟩) (Or.inl (by simp)) _).drew⟩
  · have hw : S.wrong e n = S := by unfold RSt.wrong; rw [if_neg (by simp [he])]
    rw [hw]
    have H := Lib.hid h
    have he' : (S.err == 0) = false := by rw [beq_eq_false_iff_ne]; exact he
    clear h he hw
    go_enter Tryz.func93, Tryz.ntmps93
    go_wp2_with fail
    go_end0
    exact ⟨rfl, RPost.self H.out⟩

theorem rd_slice {w : World} {v : Value} {l : List UInt8} (h : Rd w v (l.map byteV)) : ∃ A c, v = .slice A l.length c ∧ l.length ≤ c ∧ c ≤ maxLen := by
  obtain ⟨A, c, h1, h2, h3, _⟩ := h
  rw [List.length_map] at h1 h2
  exact ⟨A, c, h1, h2, h3⟩

set_option maxHeartbeats 400000 in
theorem has_any {a : Nat} {S : RSt} {vb : Value} {w : World} (h : IsR 128 w a S vb) (n : Int) (_h0 : 0 ≤ n) (_h1 : n ≤ 9223372036854775807) :
    Calls Tryz.prog 94 #[.pointer (some ⟨a, 0, none⟩), .int .i64 n] w fun x w' =>
      (S.err ≠ 0 ∧ x = .returned (.bool false) ∧ w = w') ∨ (S.err = 0 ∧ (S.rest.length : Int) < n ∧ x = .returned (.bool false) ∧ RPost 128 w a vb (S.wrong 10 0) w') ∨
      (S.err = 0 ∧ n ≤ (S.rest.length : Int) ∧ x = .returned (.bool true) ∧ ∃ k, w.drewN k = w') := by
  obtain ⟨c0, c1, c2, c3, c4, f1, f3, f4⟩ := cell5 h.cells
  have hsz := h.wf.size
  have hpl := h.wf.place
  have hrl : S.rest.length = S.bytes.length - S.place := by simp [RSt.rest]
  by_cases he : S.err = 0
  · obtain ⟨A, c, hvb, hlc, hcm⟩ := rd_slice h.b
    have H := Lib.hid h
    have HE := Lib.hid he
    have HR := Lib.hid hrl
    rw [he] at c3
    subst hvb
    by_cases hf : (S.bytes.length : Int) - S.place < n
    · clear h he hrl
      go_enter Tryz.func94, Tryz.ntmps94
      go_wp2_with fail
      go_quiet (fail)
      go_wp2_with fail
      refine (wrong_any (H.out.drewN _) 10 0 (by omega) (by omega) (by omega)).mono ?_; rintro e w1 ⟨rfl, hr⟩
      have HP := Lib.hid hr
      clear hr
      go_wp2_with fail
      go_ret
      exact Or.inr (Or.inl ⟨HE.out, by have := HR.out; omega, rfl, HP.out.1, ((Mods.refl _ _).drewN _).trans HP.out.2 (fun b hb => Or.inl hb)⟩)
    · clear h he hrl
      go_enter Tryz.func94, Tryz.ntmps94
      go_wp2_with fail
      go_quiet (fail)
      go_wp2_with fail
      go_ret
      exact Or.inr (Or.inr ⟨HE.out, by have := HR.out; omega, rfl, _, rfl⟩)
  · have HE := Lib.hid he
    have he' : (S.err != 0) = true := by rw [bne_iff_ne]; exact he
    clear h he hrl
    go_enter Tryz.func94, Tryz.ntmps94
    go_wp2_with fail
    go_ret
    exact Or.inl ⟨HE.out, rfl, rfl⟩
theorem has_err {a : Nat} {S : RSt} {vb : Value} {w : World} (h : IsR 128 w a S vb) (n : Int) (h0 : 0 ≤ n) (h1 : n ≤ 9223372036854775807) (he : S.err ≠ 0) :
    Calls Tryz.prog 94 #[.pointer (some ⟨a, 0, none⟩), .int .i64 n] w fun x w' => x = .returned (.bool false) ∧ w = w' :=
  (has_any h n h0 h1).mono fun _ _ hh => by
    rcases hh with ⟨_, h, h'⟩ | ⟨h, _⟩ | ⟨h, _⟩
    · exact ⟨h, h'⟩
    · exact absurd h he
    · exact absurd h he
theorem has_short {a : Nat} {S : RSt} {vb : Value} {w : World} (h : IsR 128 w a S vb) (n : Int) (h0 : 0 ≤ n) (h1 : n ≤ 9223372036854775807) (he : S.err = 0) (hf : (S.rest.length : Int) < n) :
    Calls Tryz.prog 94 #[.pointer (some ⟨a, 0, none⟩), .int .i64 n] w fun x w' => x = .returned (.bool false) ∧ RPost 128 w a vb (S.wrong 10 0) w' :=
  (has_any h n h0 h1).mono fun _ _ hh => by
    rcases hh with ⟨h, _⟩ | ⟨_, _, h, h'⟩ | ⟨_, h, _⟩
    · exact absurd he h
    · exact ⟨h, h'⟩
    · omega
theorem has_fits {a : Nat} {S : RSt} {vb : Value} {w : World} (h : IsR 128 w a S vb) (n : Int) (h0 : 0 ≤ n) (h1 : n ≤ 9223372036854775807) (he : S.err = 0) (hf : n ≤ (S.rest.length : Int)) :
    Calls Tryz.prog 94 #[.pointer (some ⟨a, 0, none⟩), .int .i64 n] w fun x w' => x = .returned (.bool true) ∧ ∃ k, w.drewN k = w' :=
  (has_any h n h0 h1).mono fun _ _ hh => by
    rcases hh with ⟨h, _⟩ | ⟨_, h, _⟩ | ⟨_, _, h⟩
    · exact absurd he h
    · omega
    · exact h

theorem err_any {a : Nat} {S : RSt} {vb : Value} {w : World} (h : IsR 128 w a S vb) :
    Calls Tryz.prog 60 #[.pointer (some ⟨a, 0, none⟩)] w fun x w' => x = .returned (.tuple #[.int .i64 S.err, .int .i64 (S.spot : Int)]) ∧ ∃ k, w.drewN k = w' := by
  obtain ⟨c0, c1, c2, c3, c4, f1, f3, f4⟩ := cell5 h.cells
  clear h
  go_enter Tryz.func60, Tryz.ntmps60
  go_wp2_with fail
  go_quiet (fail)
  go_wp2_with fail
  go_ret2
  exact ⟨rfl, _, rfl⟩

end Go.Proofs.YtmcekhgmmocajaaGreatDoor
namespace Go.Proofs.YtmcekhgmmocajaaGreatDoor
open Go.RowKit Me

def RelGet (w : World) (l : List UInt8) (wd : Nat) (i v : Value) (wr : World) : Prop :=
  ∃ j x k : Nat, j ≤ wd ∧ i = .int .i64 j ∧ v = .int .u64 (x : Int) ∧ x = val (l.take j) ∧ w.drewN k = wr
theorem val_take_lt (l : List UInt8) (k : Nat) : val (l.take k) < 256 ^ k := by
  have h := val_lt (l.take k)
  have h2 : (l.take k).length ≤ k := List.length_take_le _ _
  exact Nat.lt_of_lt_of_le h (Nat.pow_le_pow_right (by omega) h2)
theorem or_pow (x b j : Nat) (hx : x < 256 ^ j) : x ||| b * 256 ^ j = x + b * 256 ^ j := by
  have h : x < 2 ^ (8 * j) := by rw [Nat.pow_mul]; exact hx
  have e : 256 ^ j = 2 ^ (8 * j) := by rw [Nat.pow_mul]
  rw [e, Nat.or_comm, Nat.mul_comm, ← Nat.two_pow_add_eq_or_of_lt h b]
  omega
/-- One byte more is put into the number. -/
theorem or_step {l : List UInt8} (x : Nat) (b : UInt8) (j : Nat) (hx : x = val (l.take j)) (_hl : j < l.length) (hj : j < 8) :
    bits .or .u64 (x : Int) ((b.toNat * 256 ^ j : Nat) : Int) = ((x + b.toNat * 256 ^ j : Nat) : Int) := by
  have h1 := val_take_lt l j
  rw [← hx] at h1
  have h2 := b.toNat_lt
  have hp : 256 ^ (j + 1) ≤ 256 ^ 8 := Nat.pow_le_pow_right (by omega) (by omega)
  have h3 : x + b.toNat * 256 ^ j < 256 ^ (j + 1) := by
    rw [Nat.pow_succ]
    have : b.toNat * 256 ^ j ≤ 255 * 256 ^ j := Nat.mul_le_mul_right _ (by omega)
    omega
  have h8 : (256 : Nat) ^ 8 = 18446744073709551616 := rfl
  rw [u64_or_nat _ _ (by omega) (by omega), or_pow _ _ _ h1]
theorem take_val {l : List UInt8} {b : UInt8} {j : Nat} (h : l[j]? = some b) : val (l.take (j + 1)) = val (l.take j) + b.toNat * 256 ^ j := by
  have hl : j < l.length := (List.getElem?_eq_some_iff.1 h).1
  have he : l[j] = b := by rw [List.getElem?_eq_getElem hl] at h; exact Option.some.inj h
  rw [List.take_succ_eq_append_getElem hl, val_append, he, List.length_take, Nat.min_eq_left (by omega)]
  simp [val, Nat.mul_comm]
theorem relGet_step {w : World} {l : List UInt8} {wd j x k : Nat} {b : UInt8} {i y : Int} (hj : j < wd) (hx : x = val (l.take j)) (hb : l[j]? = some b) (hi : i = (j : Int) + 1 ∧ y = ((x + b.toNat * 256 ^ j : Nat) : Int)) :
    RelGet w l wd (.int .i64 i) (.int .u64 y) (w.drewN k) := by
  refine ⟨j + 1, x + b.toNat * 256 ^ j, k, by omega, by rw [hi.1]; rfl, by rw [hi.2], ?_, rfl⟩
  rw [take_val hb, hx]
theorem rd_bytes {w : World} {A : Option Addr} {c : Nat} {vb : Value} {l : List UInt8} (_hv : vb = .slice A (l.map byteV).length c) (h : ∀ j u, (l.map byteV)[j]? = some u → ∃ g off, A = some ⟨g, off, none⟩ ∧ w.cell? ⟨g, off + j, none⟩ = some u)
    (hl : 0 < l.length) (p n : Nat) (hp : p + n ≤ l.length) : ∃ g off, A = some ⟨g, off, none⟩ ∧ ∀ j, j < n → ∃ b : UInt8, (l.drop p)[j]? = some b ∧ w.cell? ⟨g, off + (p + j), none⟩ = some (.int .u8 (b.toNat : Int)) := by
  obtain ⟨g, off, hA, _⟩ := h 0 (byteV l[0]) (by simp [hl])
  refine ⟨g, off, hA, fun j hj => ?_⟩
  have hlt : p + j < l.length := by omega
  obtain ⟨g', off', hA', hc⟩ := h (p + j) (byteV l[p + j]) (by simp [hlt])
  rw [hA] at hA'
  cases hA'
  exact ⟨l[p + j], by simp [hlt], hc⟩
theorem conv_fit_8 (x : Nat) (h : x < 256 ^ 1) : (x : Int) % 256 = (x : Int) := by omega
theorem conv_fit_16 (x : Nat) (h : x < 256 ^ 2) : (x : Int) % 65536 = (x : Int) := by omega
theorem conv_fit_32 (x : Nat) (h : x < 256 ^ 4) : (x : Int) % 4294967296 = (x : Int) := by omega
theorem conv_fit_64 (x : Nat) (_h : x < 256 ^ 8) : True := trivial



set_option maxRecDepth 100000 in
set_option maxHeartbeats 400000 in
theorem get32_fits {a : Nat} {S : RSt} {vb : Value} {w : World} (h : IsR 128 w a S vb) (he : S.err = 0) (hf : 4 ≤ S.rest.length) :
    Calls Tryz.prog 95 #[.pointer (some ⟨a, 0, none⟩), .int .i64 4] w fun x w' => x = .returned (.int .u32 (val (S.rest.take 4) : Int)) ∧ RPost 128 w a vb { S with place := S.place + 4 } w' := by
  have H := Lib.hid h
  have HE := Lib.hid he
  have HF := Lib.hid hf
  have hsz := h.wf.size
  have hpl := h.wf.place
  have hfit : S.place + 4 ≤ S.bytes.length := by simp [RSt.rest] at hf; omega
  obtain ⟨A, c, hvb, hlc, hcm, hcells⟩ := h.b
  obtain ⟨g, off, hA, hby⟩ := rd_bytes hvb hcells (by omega) S.place 4 hfit
  subst hA
  have HB := Lib.hid hby
  rw [List.length_map] at hvb hlc
  subst hvb
  clear h he hf hcells hby
  obtain ⟨c0, c1, c2, c3, c4, f1, f3, f4⟩ := cell5 H.out.cells
  go_enter Tryz.func95, Tryz.ntmps95
  go_wp2_with fail
  refine (has_fits H.out 4 (by omega) (by omega) HE.out (by have := HF.out; omega)).mono ?_; rintro e w1 ⟨rfl, k, rfl⟩
  go_wp2_with fail
  go_loopw [12, 5] (fun i v wr => RelGet w S.rest 4 i v wr) (fun i _ _ => 4 - (intOf i).toNat)
  case atStart => exact ⟨0, 0, k, by omega, rfl, rfl, rfl, rfl⟩
  case round =>
    obtain ⟨j, x, k, hj, rfl, rfl, hx, rfl⟩ := hrel
    have HX := Lib.hid hx
    clear hx
    rcases Nat.lt_or_ge j 4 with hlt | hge
    · rcases (show j = 0 ∨ j = 1 ∨ j = 2 ∨ j = 3 by omega) with rfl | rfl | rfl | rfl
      · obtain ⟨b, hbe, b0⟩ := HB.out 0 (by omega)
        have hbl := b.toNat_lt
        have HBE := Lib.hid hbe
        clear hbe
        simp only [Nat.add_zero] at b0
        have hor : bits .or .u64 (x : Int) (b.toNat : Int) = ((x + b.toNat * 1 : Nat) : Int) := by
          have := or_step x b 0 HX.out (by have := HF.out; omega) (by omega)
          simpa using this
        go_wp2_with fail
        go_quiet (fail)
        go_wp2_with fail
        exact ⟨relGet_step (l := S.rest) (j := 0) (by omega) HX.out HBE.out ⟨by rfl, by simp⟩, by simp [intOf]⟩
      · obtain ⟨b, hbe, b0⟩ := HB.out 1 (by omega)
        have hbl := b.toNat_lt
        have HBE := Lib.hid hbe
        clear hbe
        have s1 : IntKind.i64.wrap ((S.place : Int) + 1) = (S.place : Int) + 1 := IntWalk.i64_in _ (by omega)
        have s2 : (0 : Int) ≤ (S.place : Int) + 1 := by omega
        have s3 : ((S.place : Int) + 1).toNat = S.place + 1 := by omega
        have s4 : (S.place : Int) + 1 < (S.bytes.length : Int) := by omega
        have hor : bits .or .u64 (x : Int) ((b.toNat : Int) * 256) = ((x + b.toNat * 256 : Nat) : Int) := by
          have := or_step x b 1 HX.out (by have := HF.out; omega) (by omega)
          simpa using this
        go_wp2_with fail
        go_quiet (fail)
        go_wp2_with fail
        exact ⟨relGet_step (l := S.rest) (j := 1) (by omega) HX.out HBE.out ⟨by rfl, by simp⟩, by simp [intOf]⟩
      · obtain ⟨b, hbe, b0⟩ := HB.out 2 (by omega)
        have hbl := b.toNat_lt
        have HBE := Lib.hid hbe
        clear hbe
        have s1 : IntKind.i64.wrap ((S.place : Int) + 2) = (S.place : Int) + 2 := IntWalk.i64_in _ (by omega)
        have s2 : (0 : Int) ≤ (S.place : Int) + 2 := by omega
        have s3 : ((S.place : Int) + 2).toNat = S.place + 2 := by omega
        have s4 : (S.place : Int) + 2 < (S.bytes.length : Int) := by omega
        have hor : bits .or .u64 (x : Int) ((b.toNat : Int) * 65536) = ((x + b.toNat * 65536 : Nat) : Int) := by
          have := or_step x b 2 HX.out (by have := HF.out; omega) (by omega)
          simpa using this
        go_wp2_with fail
        go_quiet (fail)
        go_wp2_with fail
        exact ⟨relGet_step (l := S.rest) (j := 2) (by omega) HX.out HBE.out ⟨by rfl, by simp⟩, by simp [intOf]⟩
      · obtain ⟨b, hbe, b0⟩ := HB.out 3 (by omega)
        have hbl := b.toNat_lt
        have HBE := Lib.hid hbe
        clear hbe
        have s1 : IntKind.i64.wrap ((S.place : Int) + 3) = (S.place : Int) + 3 := IntWalk.i64_in _ (by omega)
        have s2 : (0 : Int) ≤ (S.place : Int) + 3 := by omega
        have s3 : ((S.place : Int) + 3).toNat = S.place + 3 := by omega
        have s4 : (S.place : Int) + 3 < (S.bytes.length : Int) := by omega
        have hor : bits .or .u64 (x : Int) ((b.toNat : Int) * 16777216) = ((x + b.toNat * 16777216 : Nat) : Int) := by
          have := or_step x b 3 HX.out (by have := HF.out; omega) (by omega)
          simpa using this
        go_wp2_with fail
        go_quiet (fail)
        go_wp2_with fail
        exact ⟨relGet_step (l := S.rest) (j := 3) (by omega) HX.out HBE.out ⟨by rfl, by simp⟩, by simp [intOf]⟩
    · obtain rfl : j = 4 := by omega
      have hv := HX.out ▸ val_take_lt S.rest 4
      have HV := Lib.hid hv
      clear hv
      have hk1 : (w.drewN k).cell? ⟨a, 1, none⟩ = some (.int .i64 (S.place : Int)) := c1
      have hk2 : (w.drewN k).frozen? ⟨a, 1, none⟩ = false := f1
      have hcv := conv_fit_32 x (by have := HX.out; have := val_take_lt S.rest 4; omega)
      go_wp2_with fail
      go_ret
      exact ⟨by rw [← HX.out]; rfl, ((H.out.drewN k).goto 4 hfit rfl), ((Mods.refl _ _).drewN k).setCell (p := ⟨a, 1, none⟩) (Or.inl (by simp)) _⟩
set_option maxHeartbeats 400000 in
theorem get32_any {a : Nat} {S : RSt} {vb : Value} {w : World} (h : IsR 128 w a S vb) :
    Calls Tryz.prog 95 #[.pointer (some ⟨a, 0, none⟩), .int .i64 4] w fun x w' => x = .returned (.int .u32 ((S.get 4).1 : Int)) ∧ RPost 128 w a vb (S.get 4).2 w' := by
  unfold RSt.get
  by_cases he : S.err = 0
  · rw [if_neg (by simp [he])]
    by_cases hf : S.rest.length < 4
    · rw [if_pos hf]
      have H := Lib.hid h
      have HE := Lib.hid he
      have HF := Lib.hid hf
      clear h he hf
      go_enter Tryz.func95, Tryz.ntmps95
      go_wp2_with fail
      refine (has_short H.out 4 (by omega) (by omega) HE.out (by have := HF.out; omega)).mono ?_; rintro e w1 ⟨rfl, hr⟩
      have HP := Lib.hid hr
      clear hr
      go_wp2_with fail
      go_ret
      exact ⟨rfl, HP.out⟩
    · rw [if_neg hf]
      exact get32_fits h he (by omega)
  · rw [if_pos he]
    have H := Lib.hid h
    have HE := Lib.hid he
    clear h he
    go_enter Tryz.func95, Tryz.ntmps95
    go_wp2_with fail
    refine (has_err H.out 4 (by omega) (by omega) HE.out).mono ?_; rintro e w1 ⟨rfl, rfl⟩
    go_wp2_with fail
    go_ret
    exact ⟨rfl, RPost.self H.out⟩

end Go.Proofs.YtmcekhgmmocajaaGreatDoor
namespace Go.Proofs.YtmcekhgmmocajaaGreatDoor
open Go.RowKit Me
theorem ru32_any {a : Nat} {S : RSt} {vb : Value} {w : World} (h : IsR 128 w a S vb) :
    Calls Tryz.prog 58 #[.pointer (some ⟨a, 0, none⟩)] w fun x w' => x = .returned (.int .u32 ((S.get 4).1 : Int)) ∧ RPost 128 w a vb (S.get 4).2 w' := by
  have HG := Lib.hid (get32_any h)
  clear h
  generalize S.get 4 = R at HG ⊢
  go_enter Tryz.func58, Tryz.ntmps58
  go_wp2_with fail
  refine HG.out.mono ?_; rintro e w1 ⟨rfl, hr⟩
  have HP := Lib.hid hr
  clear hr
  go_wp2_with fail
  go_ret
  exact ⟨rfl, HP.out⟩

theorem i64_or_nat (a b : Nat) (ha : a < 4294967296) (hb : b < 4294967296) : bits .or .i64 (a : Int) (b : Int) = ((a ||| b : Nat) : Int) := by
  have hx : a ||| b < 2 ^ 32 := Nat.or_lt_two_pow (by omega) (by omega)
  show IntKind.i64.wrap ((BitVec.ofInt 64 (a : Int) ||| BitVec.ofInt 64 (b : Int)).toNat : Int) = _
  rw [BitVec.toNat_or, ofInt_u64 a (by omega), ofInt_u64 b (by omega)]
  exact IntWalk.i64_in _ (by omega)
theorem count_or (x y : UInt8) : bits .or .i64 (x.toNat : Int) ((y.toNat : Int) * 256) = ((val [x, y] : Nat) : Int) := by
  have h := i64_or_nat x.toNat (y.toNat * 256) (by have := x.toNat_lt; omega) (by have := y.toNat_lt; omega)
  have e : x.toNat ||| y.toNat * 256 = x.toNat + y.toNat * 256 := or_pow x.toNat y.toNat 1 x.toNat_lt
  rw [e] at h
  have e2 : ((y.toNat * 256 : Nat) : Int) = (y.toNat : Int) * 256 := by omega
  rw [e2] at h
  rw [h]
  simp only [val]
  congr 1
  omega
set_option maxRecDepth 100000 in
set_option maxHeartbeats 1000000 in
theorem counted_two {a : Nat} {S : RSt} {vb : Value} {w : World} (h : IsR 128 w a S vb) (he : S.err = 0) (hf : 2 ≤ S.rest.length) :
    Calls Tryz.prog 96 #[.pointer (some ⟨a, 0, none⟩)] w fun x w' =>
      (S.rest.length < 2 + val (S.rest.take 2) ∧ x = .returned (.tuple #[.int .i64 (val (S.rest.take 2) : Int), .bool false]) ∧ RPost 128 w a vb (S.wrong 10 0) w') ∨
      (2 + val (S.rest.take 2) ≤ S.rest.length ∧ x = .returned (.tuple #[.int .i64 (val (S.rest.take 2) : Int), .bool true]) ∧ ∃ k, w.drewN k = w') := by
  have hsz := h.wf.size
  have hpl := h.wf.place
  have hfit : S.place + 2 ≤ S.bytes.length := by simp [RSt.rest] at hf; omega
  obtain ⟨A, c, hvb, hlc, hcm, hcells⟩ := h.b
  obtain ⟨g, off, hA, hby⟩ := rd_bytes hvb hcells (by omega) S.place 2 hfit
  subst hA
  rw [List.length_map] at hvb hlc
  obtain ⟨x, hx, b0⟩ := hby 0 (by omega)
  obtain ⟨y, hy, b1⟩ := hby 1 (by omega)
  have hval : S.rest.take 2 = [x, y] := by
    have h0 : S.rest = S.bytes.drop S.place := rfl
    rw [h0]
    match hl : S.bytes.drop S.place, hx, hy with
    | p :: q :: r, hx, hy => simp at hx hy; subst hx hy; rfl
  have hlt : val (S.rest.take 2) < 65536 := val_take_lt _ 2
  rw [hval] at hlt ⊢
  have HV := Lib.hid (count_or x y)
  have H := Lib.hid h
  have HE := Lib.hid he
  have HF := Lib.hid hf
  subst hvb
  have hxl := x.toNat_lt
  have hyl := y.toNat_lt
  obtain ⟨c0, c1, c2, c3, c4, f1, f3, f4⟩ := cell5 h.cells
  clear h he hf hcells hby hval hx hy
  generalize hvv : val [x, y] = n at HV hlt ⊢
  clear hvv
  simp only [Nat.add_zero] at b0
  have s1 : IntKind.i64.wrap ((S.place : Int) + 1) = (S.place : Int) + 1 := IntWalk.i64_in _ (by omega)
  have s2 : (0 : Int) ≤ (S.place : Int) + 1 := by omega
  have s3 : ((S.place : Int) + 1).toNat = S.place + 1 := by omega
  have s4 : (S.place : Int) + 1 < (S.bytes.length : Int) := by omega
  have s5 : (S.place : Int) < (S.bytes.length : Int) := by omega
  have hor := HV.out
  go_enter Tryz.func96, Tryz.ntmps96
  go_wp2_with fail
  refine (has_fits H.out 2 (by omega) (by omega) HE.out (by have := HF.out; omega)).mono ?_; rintro e w1 ⟨rfl, k, rfl⟩
  go_wp2_with fail
  go_quiet (fail)
  go_wp2_with fail
  refine (has_any (H.out.drewN _) (2 + (n : Int)) (by omega) (by omega)).mono ?_; rintro e w1 hh
  rcases hh with ⟨he, _, _⟩ | ⟨_, hs, rfl, hr⟩ | ⟨_, hs, rfl, k2, rfl⟩
  · exact absurd HE.out he
  · have HP := Lib.hid hr
    clear hr
    go_wp2_with fail
    go_ret2
    exact Or.inl ⟨by omega, rfl, HP.out.1, ((Mods.refl _ _).drewN _).trans HP.out.2 (fun b hb => Or.inl hb)⟩
  · go_wp2_with fail
    go_ret2
    exact Or.inr ⟨by omega, rfl, _, rfl⟩
set_option maxHeartbeats 400000 in
/-- counted, whatever the reader is. -/
theorem counted_any {a : Nat} {S : RSt} {vb : Value} {w : World} (h : IsR 128 w a S vb) :
    Calls Tryz.prog 96 #[.pointer (some ⟨a, 0, none⟩)] w fun x w' =>
      (∃ n, S.counted = (some n, S) ∧ S.err = 0 ∧ 2 + n ≤ S.rest.length ∧ n < 65536 ∧ x = .returned (.tuple #[.int .i64 (n : Int), .bool true]) ∧ ∃ k, w.drewN k = w') ∨
      (∃ m : Int, S.counted.1 = none ∧ x = .returned (.tuple #[.int .i64 m, .bool false]) ∧ RPost 128 w a vb S.counted.2 w') := by
  by_cases he : S.err = 0
  · by_cases hf : S.rest.length < 2
    · have e1 : S.counted = (none, S.wrong 10 0) := by unfold RSt.counted; rw [if_neg (by simp [he]), if_pos hf]
      rw [e1]
      have H := Lib.hid h
      have HE := Lib.hid he
      have HF := Lib.hid hf
      clear h he hf e1
      go_enter Tryz.func96, Tryz.ntmps96
      go_wp2_with fail
      refine (has_short H.out 2 (by omega) (by omega) HE.out (by have := HF.out; omega)).mono ?_; rintro e w1 ⟨rfl, hr⟩
      have HP := Lib.hid hr
      clear hr
      go_wp2_with fail
      go_ret2
      exact Or.inr ⟨0, trivial, rfl, HP.out⟩
    · refine (counted_two h he (by omega)).mono ?_
      rintro x w' (⟨h1, h2, h3⟩ | ⟨h1, h2, h3⟩)
      · have e1 : S.counted = (none, S.wrong 10 0) := by unfold RSt.counted; rw [if_neg (by simp [he]), if_neg hf, if_pos h1]
        rw [e1]
        exact Or.inr ⟨_, rfl, h2, h3⟩
      · have e1 : S.counted = (some (val (S.rest.take 2)), S) := by unfold RSt.counted; rw [if_neg (by simp [he]), if_neg hf, if_neg (by omega)]
        exact Or.inl ⟨_, e1, he, h1, val_take_lt _ 2, h2, h3⟩
  · have e1 : S.counted = (none, S) := by unfold RSt.counted; rw [if_pos he]
    rw [e1]
    have H := Lib.hid h
    have HE := Lib.hid he
    clear h he e1
    go_enter Tryz.func96, Tryz.ntmps96
    go_wp2_with fail
    refine (has_err H.out 2 (by omega) (by omega) HE.out).mono ?_; rintro e w1 ⟨rfl, rfl⟩
    go_wp2_with fail
    go_ret2
    exact Or.inr ⟨0, trivial, rfl, RPost.self H.out⟩
end Go.Proofs.YtmcekhgmmocajaaGreatDoor
