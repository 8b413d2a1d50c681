/- The walk of lays: a step of a script is written. -/
import Derived.Test.YtedddekkbgaolaaDoorOp
import Derived.Test.YtedddekkbgaolaaDoorWa
import Derived.Test.YtedddekkbgaolaaDoorSp
namespace Go.Proofs.YtedddekkbgaolaaDoor
open Go.RowKit Me

def WSt.lays (S : WSt) (o : OpP) : WSt :=
  if o.kind = 1 then S.put (le (o.n % 256) 1) else if o.kind = 2 then S.put (le (o.n % 65536) 2) else if o.kind = 3 then S.put (le (o.n % 4294967296) 4) else if o.kind = 4 then S.put (le o.n 8)
  else if o.kind = 5 then S.put o.b else if o.kind = 6 then S.text o.lets else S
def LaysPost (w : World) (a : Nat) (vb vo : Value) (S : WSt) (e : Ending) (w' : World) : Prop := e = .returned (.tuple #[]) ∧ WPost 122 w a vb vo S w'

set_option maxRecDepth 100000 in
set_option maxHeartbeats 1000000 in
theorem lays_any {w : World} (hT : Lib.Utf8Tabs 0 1 w) {a : Nat} {S : WSt} {wb wo : Value} (h : IsW 122 w a S wb wo) (o : OpP) (ho : o.Fits) {vb : Value} (hb : Rd w vb (o.b.map byteV)) :
    Calls Tryd.prog 41 #[.pointer (some ⟨a, 0, none⟩), opV o vb] w (LaysPost w a wb wo (S.lays o)) := by
  have HB := Lib.hid hb
  obtain ⟨A, c, hvb, -⟩ := hb
  rw [List.length_map] at hvb
  subst hvb
  have HBX := Lib.hid (fun (x : Obj) => (HB.out.mods ((Mods.refl [] w).alloc x) (by simp)))
  have HT := Lib.hid (fun (w' : World) (hm : Mods [] w w') => tabs_keep (hm.toBelow (by simp)) hT)
  have HP := Lib.hid (fun (x : Obj) => (WPost.start h).still ((Mods.refl [] w).alloc x))
  have hn := ho.n
  have HLE := Lib.hid (lettersL_length o.s.data.toList)
  have HL : Hid (∀ w : World, Calls Tryd.prog 98 #[.string o.s] w fun e w' => e = .returned (.string ⟨(lettersL o.s.data.toList).toArray⟩) ∧ Mods [] w w') := Lib.hid fun w => letters_any o.s (by have := ho.s; unfold maxLen; omega)
  obtain ⟨who, kind, n, k, b, s⟩ := o
  simp only [opV, WSt.lays, OpP.lets] at *
  have c1 : (n : Int) % 256 = ((n % 256 : Nat) : Int) := rfl
  have c2 : (n : Int) % 65536 = ((n % 65536 : Nat) : Int) := rfl
  have c3 : (n : Int) % 4294967296 = ((n % 4294967296 : Nat) : Int) := rfl
  have HN := Lib.hid (And.intro hn (And.intro c1 (And.intro c2 c3)))
  clear hn c1 c2 c3 h hT ho
  generalize hx : (n : Int) = x at *
  have HX := Lib.hid hx
  clear hx
  by_cases h1 : kind = 1
  · subst h1
    go_enter Tryd.func41, Tryd.ntmps41
    go_wp2_with fail
    first | rw [HN.out.2.1] | rw [IntKind.wrap_u8, HN.out.2.1]
    refine ((HP.out _).call fun vb vo hi => u8_any hi (n % 256) (by omega)).mono ?_; rintro e w1 ⟨rfl, hp⟩
    have HQ := Lib.hid hp
    clear hp
    go_wp2_with fail
    go_end0
    exact ⟨rfl, HQ.out⟩
  have e1 : (kind == 1) = false := by simpa using h1
  by_cases h2 : kind = 2
  · subst h2
    go_enter Tryd.func41, Tryd.ntmps41
    go_wp2_with fail
    rw [IntKind.wrap_u16, HN.out.2.2.1]
    refine ((HP.out _).call fun vb vo hi => u16_any hi (n % 65536) (by omega)).mono ?_; rintro e w1 ⟨rfl, hp⟩
    have HQ := Lib.hid hp
    clear hp
    go_wp2_with fail
    go_end0
    exact ⟨rfl, HQ.out⟩
  have e2 : (kind == 2) = false := by simpa using h2
  by_cases h3 : kind = 3
  · subst h3
    go_enter Tryd.func41, Tryd.ntmps41
    go_wp2_with fail
    rw [HN.out.2.2.2]
    refine ((HP.out _).call fun vb vo hi => u32_any hi (n % 4294967296) (by omega)).mono ?_; rintro e w1 ⟨rfl, hp⟩
    have HQ := Lib.hid hp
    clear hp
    go_wp2_with fail
    go_end0
    exact ⟨rfl, HQ.out⟩
  have e3 : (kind == 3) = false := by simpa using h3
  by_cases h4 : kind = 4
  · subst h4
    go_enter Tryd.func41, Tryd.ntmps41
    go_wp2_with fail
    rw [← HX.out]
    refine ((HP.out _).call fun vb vo hi => u64_any hi n (by rw [IntKind.wrap_u64]; have := HN.out.1; omega)).mono ?_; rintro e w1 ⟨rfl, hp⟩
    have HQ := Lib.hid hp
    clear hp
    go_wp2_with fail
    go_end0
    exact ⟨rfl, HQ.out⟩
  have e4 : (kind == 4) = false := by simpa using h4
  by_cases h5 : kind = 5
  · subst h5
    go_enter Tryd.func41, Tryd.ntmps41
    go_wp2_with fail
    refine ((HP.out _).call fun vb vo hi => raw_any hi b (HBX.out _)).mono ?_; rintro e w1 ⟨rfl, hp⟩
    have HQ := Lib.hid hp
    clear hp
    go_wp2_with fail
    go_end0
    exact ⟨rfl, HQ.out⟩
  have e5 : (kind == 5) = false := by simpa using h5
  by_cases h6 : kind = 6
  · subst h6
    have hll : (⟨(lettersL s.data.toList).toArray⟩ : ByteArray).data.toList = lettersL s.data.toList := rfl
    have hls : (⟨(lettersL s.data.toList).toArray⟩ : ByteArray).size = (lettersL s.data.toList).length := rfl
    rw [← hll]
    rw [← hls] at HLE
    generalize (⟨(lettersL s.data.toList).toArray⟩ : ByteArray) = L at *
    clear hll hls
    go_enter Tryd.func41, Tryd.ntmps41
    go_wp2_with fail
    refine (HL.out _).mono ?_; rintro e w1 ⟨rfl, hm⟩
    have HM := Lib.hid (((Mods.refl [] w).alloc _).trans hm (by simp))
    have HP1 := Lib.hid ((HP.out _).still hm)
    clear hm
    go_wp2_with fail
    refine (HP1.out.call fun vb vo hi => text_any hi L (by have := HLE.out; unfold maxLen; omega) (HT.out _ HM.out)).mono ?_; rintro e w2 ⟨rfl, hp⟩
    have HQ := Lib.hid hp
    clear hp
    go_wp2_with fail
    go_end0
    exact ⟨rfl, HQ.out⟩
  have e6 : (kind == 6) = false := by simpa using h6
  rw [if_neg h1, if_neg h2, if_neg h3, if_neg h4, if_neg h5, if_neg h6]
  clear h1 h2 h3 h4 h5 h6
  go_enter Tryd.func41, Tryd.ntmps41
  go_wp2_with fail
  go_end0
  exact ⟨rfl, HP.out _⟩
end Go.Proofs.YtedddekkbgaolaaDoor
