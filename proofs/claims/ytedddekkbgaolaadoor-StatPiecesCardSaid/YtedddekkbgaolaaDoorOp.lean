/- A step of a script (vergerlaw01.Op): its value; the walks of size and lays. -/
import Derived.Test.YtedddekkbgaolaaDoorFi
import Derived.Test.YtedddekkbgaolaaDoorWu
namespace Go.Proofs.YtedddekkbgaolaaDoor
open Go.RowKit Me

structure OpP where
  who : Int
  kind : Int
  n : Nat
  k : Int
  b : List UInt8
  s : ByteArray
structure OpP.Fits (o : OpP) : Prop where
  who : -9223372036854775808 ≤ o.who ∧ o.who ≤ 9223372036854775807
  kind : -9223372036854775808 ≤ o.kind ∧ o.kind ≤ 9223372036854775807
  n : o.n < 18446744073709551616
  k : -9223372036854775808 ≤ o.k ∧ o.k ≤ 9223372036854775807
  b : o.b.length ≤ 140737488355328
  s : o.s.size ≤ 140737488355328
def opV (o : OpP) (vb : Value) : Value := .agg #[.int .i64 o.who, .int .i64 o.kind, .int .u64 (o.n : Int), .int .i64 o.k, vb, .string o.s]
def OpP.lets (o : OpP) : List UInt8 := lettersL o.s.data.toList
def OpP.size (o : OpP) : Nat :=
  if o.kind = 1 then 1 else if o.kind = 2 then 2 else if o.kind = 7 then 2 else if o.kind = 3 then 4 else if o.kind = 4 then 8 else if o.kind = 5 then o.b.length else if o.kind = 6 then 2 + o.lets.length else 0
def SizePost (w : World) (n : Nat) (e : Ending) (w' : World) : Prop := e = .returned (.int .i64 (n : Int)) ∧ Mods [] w w'

set_option maxRecDepth 100000 in
set_option maxHeartbeats 1000000 in
theorem opsize_any {w : World} (o : OpP) (ho : o.Fits) {vb : Value} (hb : Rd w vb (o.b.map byteV)) : Calls Tryd.prog 40 #[opV o vb] w (SizePost w o.size) := by
  obtain ⟨A, c, rfl, -⟩ := hb
  have hs := ho.s
  have hbl := ho.b
  have hLL := lettersL_length o.s.data.toList
  have HL : Hid (∀ w : World, Calls Tryd.prog 98 #[.string o.s] w fun e w' => e = .returned (.string ⟨(lettersL o.s.data.toList).toArray⟩) ∧ Mods [] w w') := Lib.hid fun w => letters_any o.s (by unfold maxLen; omega)
  obtain ⟨who, kind, n, k, b, s⟩ := o
  simp only [opV, OpP.size, OpP.lets, List.length_map] at *
  have hsz : (⟨(lettersL s.data.toList).toArray⟩ : ByteArray).size = (lettersL s.data.toList).length := rfl
  generalize hx : (⟨(lettersL s.data.toList).toArray⟩ : ByteArray) = L at *
  rw [← hsz] at hLL ⊢
  clear hsz hx ho
  by_cases h1 : kind = 1
  · subst h1
    go_enter Tryd.func40, Tryd.ntmps40
    go_wp2_with fail
    go_ret
    exact ⟨rfl, (Mods.refl _ _).alloc _⟩
  have e1 : (kind == 1) = false := by simpa using h1
  by_cases h2 : kind = 2
  · subst h2
    go_enter Tryd.func40, Tryd.ntmps40
    go_wp2_with fail
    go_ret
    exact ⟨rfl, (Mods.refl _ _).alloc _⟩
  have e2 : (kind == 2) = false := by simpa using h2
  by_cases h7 : kind = 7
  · subst h7
    go_enter Tryd.func40, Tryd.ntmps40
    go_wp2_with fail
    go_ret
    exact ⟨rfl, (Mods.refl _ _).alloc _⟩
  have e7 : (kind == 7) = false := by simpa using h7
  by_cases h3 : kind = 3
  · subst h3
    go_enter Tryd.func40, Tryd.ntmps40
    go_wp2_with fail
    go_ret
    exact ⟨rfl, (Mods.refl _ _).alloc _⟩
  have e3 : (kind == 3) = false := by simpa using h3
  by_cases h4 : kind = 4
  · subst h4
    go_enter Tryd.func40, Tryd.ntmps40
    go_wp2_with fail
    go_ret
    exact ⟨rfl, (Mods.refl _ _).alloc _⟩
  have e4 : (kind == 4) = false := by simpa using h4
  by_cases h5 : kind = 5
  · subst h5
    go_enter Tryd.func40, Tryd.ntmps40
    go_wp2_with fail
    go_ret
    exact ⟨rfl, (Mods.refl _ _).alloc _⟩
  have e5 : (kind == 5) = false := by simpa using h5
  by_cases h6 : kind = 6
  · subst h6
    go_enter Tryd.func40, Tryd.ntmps40
    go_wp2_with fail
    refine (HL.out _).mono ?_; rintro e w1 ⟨rfl, hm⟩
    have HM := Lib.hid (((Mods.refl [] w).alloc _).trans hm (by simp))
    clear hm
    go_wp2_with fail
    go_ret
    exact ⟨by simp, HM.out⟩
  have e6 : (kind == 6) = false := by simpa using h6
  rw [if_neg h1, if_neg h2, if_neg h7, if_neg h3, if_neg h4, if_neg h5, if_neg h6]
  clear h1 h2 h3 h4 h5 h6 h7
  go_enter Tryd.func40, Tryd.ntmps40
  go_wp2_with fail
  go_ret
  exact ⟨rfl, (Mods.refl _ _).alloc _⟩
end Go.Proofs.YtedddekkbgaolaaDoor
