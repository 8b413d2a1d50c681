/- Of every argument: numbers within their bounds; what is readable reads behind as ahead. -/
import Derived.Test.YtedddekkbgaolaaDoorMem
import Derived.Test.YtedddekkbgaolaaDoorWrap
import Derived.SizedLaws
namespace Go.Proofs.YtedddekkbgaolaaDoor
open Go.RowKit Go.ChangeShapes Go.WideShapes Me

theorem Tryd.laidOut : laidOutB Tryd.prog = true := by kernel_rfl
theorem cellsOf46 : Tryd.prog.cellsOf 46 = 1 := by kernel_rfl
theorem cellsOf9 : Tryd.prog.cellsOf 9 = 1 := by kernel_rfl
theorem cellsOf5 : Tryd.prog.cellsOf 5 = 1 := by kernel_rfl
section
variable {H : Type} {enc : TypeId × Value → H} {w : World} {base : Nat} {spare : Nat → Bool} {held : Bool}
theorem nat_u16 {n : Int} (h : (Lit.int .u16 n).wf = true) : ∃ m : Nat, n = (m : Int) ∧ m < 65536 := by
  obtain ⟨h1, h2⟩ := bounds_u16 h
  exact ⟨n.toNat, by omega, by omega⟩
theorem nat_u32 {n : Int} (h : (Lit.int .u32 n).wf = true) : ∃ m : Nat, n = (m : Int) ∧ m < 4294967296 := by
  obtain ⟨h1, h2⟩ := bounds_u32 h
  exact ⟨n.toNat, by omega, by omega⟩
theorem nat_u8 {n : Int} (h : (Lit.int .u8 n).wf = true) : ∃ m : Nat, n = (m : Int) ∧ m < 256 := by
  obtain ⟨h1, h2⟩ := bounds_u8 h
  exact ⟨n.toNat, by omega, by omega⟩
theorem nat_u64 {n : Int} (h : (Lit.int .u64 n).wf = true) : ∃ m : Nat, n = (m : Int) ∧ m < 18446744073709551616 := by
  obtain ⟨h1, h2⟩ := bounds_u64 h
  exact ⟨n.toNat, by omega, by omega⟩
set_option maxRecDepth 100000 in
theorem shut_stays {t : TypeId} (hr : Tryd.prog.readableRec t = true) (hrow : t < Tryd.prog.types.size) {W W' : World} {sp : Nat → Bool} {v : Value} {d : DataW H} {ps : List MemPlace}
    (h : DataW.Trod enc Tryd.prog W base (fun _ => true) true t v d ps) (hb : Below W.heap.size W W') (hlt : ∀ p ∈ ps, p.block < W.heap.size) (hs : ∀ p ∈ ps, sp p.block = true) : DataW.Trod enc Tryd.prog W' base sp true t v d ps :=
  WideElems.Trod_stays Tryd.laidOut hr hrow h (fun p hp => hb.same (hlt p hp)) hs
end
end Go.Proofs.YtedddekkbgaolaaDoor
