/- A reader in memory: what it means that one stands in a block, and the walks of wrong, has, Left, At, Err, End, Fail. -/
import Derived.Test.YtmcekhgmmocajaaDoorWr
import Derived.Test.YtmcekhgmmocajaaDoorRead
namespace Go.Proofs.YtmcekhgmmocajaaDoor
open Go.RowKit Me

/-- A slice's value: nothing, or a place of a row. -/
def Plain (v : Value) : Prop := v = .slice none 0 0 ∨ ∃ g off n c, v = .slice (some ⟨g, off, none⟩) n c
/-- A reader stands in block a; its bytes lie elsewhere. -/
structure IsR (T : TypeId) (w : World) (a : Nat) (S : RSt) (vb : Value) : Prop where
  wf : S.Wf
  cells : w.heap[a]? = some (.cells #[vb, .int .i64 (S.place : Int), .int .i64 (S.base : Int), .int .i64 S.err, .int .i64 (S.spot : Int)] T (0, 0))
  b : Rd w vb (S.bytes.map byteV)
  na : vb.ownBlock ≠ some a
  pl : Plain vb

theorem cell5 {w : World} {a : Nat} {x0 x1 x2 x3 x4 : Value} {T : TypeId} (h : w.heap[a]? = some (.cells #[x0, x1, x2, x3, x4] T (0, 0))) :
    w.cell? ⟨a, 0, none⟩ = some x0 ∧ w.cell? ⟨a, 1, none⟩ = some x1 ∧ w.cell? ⟨a, 2, none⟩ = some x2 ∧ w.cell? ⟨a, 3, none⟩ = some x3 ∧ w.cell? ⟨a, 4, none⟩ = some x4 ∧
    w.frozen? ⟨a, 1, none⟩ = false ∧ w.frozen? ⟨a, 3, none⟩ = false ∧ w.frozen? ⟨a, 4, none⟩ = false := by
  refine ⟨?_, ?_, ?_, ?_, ?_, frozen_of_row _ _ _ _ _ h, frozen_of_row _ _ _ _ _ h, frozen_of_row _ _ _ _ _ h⟩ <;> (rw [cell_of_row _ _ _ _ _ _ h]; rfl)

theorem IsR.mods {T : TypeId} {w w' : World} {a : Nat} {S : RSt} {vb : Value} {F : List Nat} (h : IsR T w a S vb) (hm : Mods F w w') (h1 : a ∉ F) (h2 : ∀ k, vb.ownBlock = some k → k ∉ F) : IsR T w' a S vb :=
  ⟨h.wf, hm.heap h.cells h1, h.b.mods hm h2, h.na, h.pl⟩
theorem IsR.drewN {T : TypeId} {w : World} {a : Nat} {S : RSt} {vb : Value} (h : IsR T w a S vb) (k : Nat) : IsR T (w.drewN k) a S vb := ⟨h.wf, h.cells, h.b, h.na, h.pl⟩
theorem Rd.set {w : World} {v : Value} {xs : List Value} (h : Rd w v xs) {a : Addr} (hn : v.ownBlock ≠ some a.block) (u : Value) : Rd (w.setCell a u) v xs :=
  h.mods (F := [a.block]) ((Mods.refl _ _).setCell (Or.inl (by simp)) u) (by intro k hk hm; simp at hm; subst hm; exact hn hk)
/-- A reader goes wrong. -/
theorem IsR.bad {T : TypeId} {w : World} {a : Nat} {S : RSt} {vb : Value} (h : IsR T w a S vb) {e : Int} (n : Nat) (he : S.err = 0) (h0 : e ≠ 0) (h1 : -9223372036854775808 ≤ e) (h2 : e ≤ 9223372036854775807) (hn : S.place + n ≤ S.bytes.length) {y : Int} (hy : y = (S.base : Int) + S.place + n) :
    IsR T ((w.setCell ⟨a, 3, none⟩ (.int .i64 e)).setCell ⟨a, 4, none⟩ (.int .i64 y)).drew a (S.wrong e n) vb := by
  have hw := h.wf.wrong h1 h2 hn
  unfold RSt.wrong at hw ⊢
  rw [if_pos ⟨he, h0⟩] at hw ⊢
  refine ⟨hw, ?_, (h.b.set (a := ⟨a, 3, none⟩) h.na _).set (a := ⟨a, 4, none⟩) h.na _, h.na, h.pl⟩
  show ((w.setCell ⟨a, 3, none⟩ (.int .i64 e)).setCell ⟨a, 4, none⟩ (.int .i64 y)).heap[a]? = _
  rw [heap_setCell_same _ _ _ _ _ _ (heap_setCell_same _ _ _ _ _ _ h.cells), hy]
  rfl
theorem IsR.goto {T : TypeId} {w : World} {a : Nat} {S : RSt} {vb : Value} (h : IsR T w a S vb) (k : Nat) (hk : S.place + k ≤ S.bytes.length) {y : Int} (hy : y = (S.place : Int) + k) :
    IsR T (w.setCell ⟨a, 1, none⟩ (.int .i64 y)) a { S with place := S.place + k } vb := by
  refine ⟨h.wf.go hk, ?_, h.b.set (a := ⟨a, 1, none⟩) h.na _, h.na, h.pl⟩
  rw [heap_setCell_same _ _ _ _ _ _ h.cells, hy]
  rfl

/-- What a call of a reader leaves. -/
def RPost (T : TypeId) (w : World) (a : Nat) (vb : Value) (S' : RSt) (w' : World) : Prop := IsR T w' a S' vb ∧ Mods [a] w w'
theorem RPost.same {T : TypeId} {w : World} {a : Nat} {S : RSt} {vb : Value} (h : IsR T w a S vb) (k : Nat) : RPost T w a vb S (w.drewN k) := ⟨h.drewN k, (Mods.refl _ _).drewN k⟩
theorem RPost.self {T : TypeId} {w : World} {a : Nat} {S : RSt} {vb : Value} (h : IsR T w a S vb) : RPost T w a vb S w := ⟨h, Mods.refl _ _⟩

set_option maxHeartbeats 400000 in
theorem wrong_any {a : Nat} {S : RSt} {vb : Value} {w : World} (h : IsR 103 w a S vb) (e : Int) (n : Nat) (h1 : -9223372036854775808 ≤ e) (h2 : e ≤ 9223372036854775807) (hn : S.place + n ≤ S.bytes.length) :
    Calls Tryd.prog 66 #[.pointer (some ⟨a, 0, none⟩), .int .i64 e, .int .i64 (n : Int)] w fun x w' => x = .returned (.tuple #[]) ∧ RPost 103 w a vb (S.wrong e n) w' := by
  obtain ⟨c0, c1, c2, c3, c4, f1, f3, f4⟩ := cell5 h.cells
  have hsz := h.wf.size
  by_cases he : S.err = 0
  · by_cases h0 : e = 0
    · have hw : S.wrong e n = S := by unfold RSt.wrong; rw [if_neg (by simp [h0])]
      rw [hw]
      subst h0
      have H := Lib.hid h
      rw [he] at c3
      clear h he hw
      go_enter Tryd.func66, Tryd.ntmps66
      go_wp2_with fail
      go_end0
      exact ⟨rfl, RPost.self H.out⟩
    · have H := Lib.hid (h.bad n he h0 h1 h2 hn rfl)
      rw [he] at c3
      have he' : (e != 0) = true := by rw [bne_iff_ne]; exact h0
      clear h0 he h
      go_enter Tryd.func66, Tryd.ntmps66
      go_wp2_with fail
      go_region
      go_wp2_with fail
      go_end0
      exact ⟨rfl, H.out, (((Mods.refl _ _).setCell (p := ⟨a, 3, none⟩) (Or.inl (by simp)) _).setCell (p := ⟨a, 4, none⟩) (Or.inl (by simp)) _).drew⟩
  · have hw : S.wrong e n = S := by unfold RSt.wrong; rw [if_neg (by simp [he])]
    rw [hw]
    have H := Lib.hid h
    have he' : (S.err == 0) = false := by rw [beq_eq_false_iff_ne]; exact he
    clear h he hw
    go_enter Tryd.func66, Tryd.ntmps66
    go_wp2_with fail
    go_end0
    exact ⟨rfl, RPost.self H.out⟩

theorem rd_slice {w : World} {v : Value} {l : List UInt8} (h : Rd w v (l.map byteV)) : ∃ A c, v = .slice A l.length c ∧ l.length ≤ c ∧ c ≤ maxLen := by
  obtain ⟨A, c, h1, h2, h3, _⟩ := h
  rw [List.length_map] at h1 h2
  exact ⟨A, c, h1, h2, h3⟩

set_option maxHeartbeats 400000 in
theorem has_any {a : Nat} {S : RSt} {vb : Value} {w : World} (h : IsR 103 w a S vb) (n : Int) (_h0 : 0 ≤ n) (_h1 : n ≤ 9223372036854775807) :
    Calls Tryd.prog 67 #[.pointer (some ⟨a, 0, none⟩), .int .i64 n] w fun x w' =>
      (S.err ≠ 0 ∧ x = .returned (.bool false) ∧ w = w') ∨ (S.err = 0 ∧ (S.rest.length : Int) < n ∧ x = .returned (.bool false) ∧ RPost 103 w a vb (S.wrong 10 0) w') ∨
      (S.err = 0 ∧ n ≤ (S.rest.length : Int) ∧ x = .returned (.bool true) ∧ ∃ k, w.drewN k = w') := by
  obtain ⟨c0, c1, c2, c3, c4, f1, f3, f4⟩ := cell5 h.cells
  have hsz := h.wf.size
  have hpl := h.wf.place
  have hrl : S.rest.length = S.bytes.length - S.place := by simp [RSt.rest]
  by_cases he : S.err = 0
  · obtain ⟨A, c, hvb, hlc, hcm⟩ := rd_slice h.b
    have H := Lib.hid h
    have HE := Lib.hid he
    have HR := Lib.hid hrl
    rw [he] at c3
    subst hvb
    by_cases hf : (S.bytes.length : Int) - S.place < n
    · clear h he hrl
      go_enter Tryd.func67, Tryd.ntmps67
      go_wp2_with fail
      go_quiet (fail)
      go_wp2_with fail
      refine (wrong_any (H.out.drewN _) 10 0 (by omega) (by omega) (by omega)).mono ?_; rintro e w1 ⟨rfl, hr⟩
      have HP := Lib.hid hr
      clear hr
      go_wp2_with fail
      go_ret
      exact Or.inr (Or.inl ⟨HE.out, by have := HR.out; omega, rfl, HP.out.1, ((Mods.refl _ _).drewN _).trans HP.out.2 (fun b hb => Or.inl hb)⟩)
    · clear h he hrl
      go_enter Tryd.func67, Tryd.ntmps67
      go_wp2_with fail
      go_quiet (fail)
      go_wp2_with fail
      go_ret
      exact Or.inr (Or.inr ⟨HE.out, by have := HR.out; omega, rfl, _, rfl⟩)
  · have HE := Lib.hid he
    have he' : (S.err != 0) = true := by rw [bne_iff_ne]; exact he
    clear h he hrl
    go_enter Tryd.func67, Tryd.ntmps67
    go_wp2_with fail
    go_ret
    exact Or.inl ⟨HE.out, rfl, rfl⟩
theorem has_err {a : Nat} {S : RSt} {vb : Value} {w : World} (h : IsR 103 w a S vb) (n : Int) (h0 : 0 ≤ n) (h1 : n ≤ 9223372036854775807) (he : S.err ≠ 0) :
    Calls Tryd.prog 67 #[.pointer (some ⟨a, 0, none⟩), .int .i64 n] w fun x w' => x = .returned (.bool false) ∧ w = w' :=
  (has_any h n h0 h1).mono fun _ _ hh => by
    rcases hh with ⟨_, h, h'⟩ | ⟨h, _⟩ | ⟨h, _⟩
    · exact ⟨h, h'⟩
    · exact absurd h he
    · exact absurd h he
theorem has_short {a : Nat} {S : RSt} {vb : Value} {w : World} (h : IsR 103 w a S vb) (n : Int) (h0 : 0 ≤ n) (h1 : n ≤ 9223372036854775807) (he : S.err = 0) (hf : (S.rest.length : Int) < n) :
    Calls Tryd.prog 67 #[.pointer (some ⟨a, 0, none⟩), .int .i64 n] w fun x w' => x = .returned (.bool false) ∧ RPost 103 w a vb (S.wrong 10 0) w' :=
  (has_any h n h0 h1).mono fun _ _ hh => by
    rcases hh with ⟨h, _⟩ | ⟨_, _, h, h'⟩ | ⟨_, h, _⟩
    · exact absurd he h
    · exact ⟨h, h'⟩
    · omega
theorem has_fits {a : Nat} {S : RSt} {vb : Value} {w : World} (h : IsR 103 w a S vb) (n : Int) (h0 : 0 ≤ n) (h1 : n ≤ 9223372036854775807) (he : S.err = 0) (hf : n ≤ (S.rest.length : Int)) :
    Calls Tryd.prog 67 #[.pointer (some ⟨a, 0, none⟩), .int .i64 n] w fun x w' => x = .returned (.bool true) ∧ ∃ k, w.drewN k = w' :=
  (has_any h n h0 h1).mono fun _ _ hh => by
    rcases hh with ⟨h, _⟩ | ⟨_, h, _⟩ | ⟨_, _, h⟩
    · exact absurd he h
    · omega
    · exact h

theorem err_any {a : Nat} {S : RSt} {vb : Value} {w : World} (h : IsR 103 w a S vb) :
    Calls Tryd.prog 47 #[.pointer (some ⟨a, 0, none⟩)] w fun x w' => x = .returned (.tuple #[.int .i64 S.err, .int .i64 (S.spot : Int)]) ∧ ∃ k, w.drewN k = w' := by
  obtain ⟨c0, c1, c2, c3, c4, f1, f3, f4⟩ := cell5 h.cells
  clear h
  go_enter Tryd.func47, Tryd.ntmps47
  go_wp2_with fail
  go_quiet (fail)
  go_wp2_with fail
  go_ret2
  exact ⟨rfl, _, rfl⟩

end Go.Proofs.YtmcekhgmmocajaaDoor
