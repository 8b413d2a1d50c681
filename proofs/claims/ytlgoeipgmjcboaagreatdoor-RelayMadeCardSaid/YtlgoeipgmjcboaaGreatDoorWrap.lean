/- What every wrap of this seat needs: what the listed variables give, a world for the witness in which they lie, and the row's last step over a world of which it is known that nothing old has turned. -/
import Derived.Test.YtlgoeipgmjcboaaGreatDoorCards
import Derived.Test.YtlgoeipgmjcboaaGreatDoorTie
import Derived.Test.YtlgoeipgmjcboaaGreatDoorShelf
import Derived.WalkKit
import Derived.ProofKit
import Derived.OpenShut
import Derived.Deep.DeepHandedRow
import Derived.Deep.DeepLaidRun
import Derived.Lib.LaidTab
import Derived.Lib.LaidU8T
import Derived.Shelf.Vars
namespace Go.Proofs.YtlgoeipgmjcboaaGreatDoor
open Go.ChangeShapes Go.WideShapes Go.ChangeAt Go.RowKit

section
variable {H : Type} {enc : TypeId × Value → H} {P : Program}
theorem post_of_below {f : Func} {s : ChangeSpec} {apart fresh handsOn again : Bool} {W W' : World} {args : Array Value} {v : Value} {ds gs : List (DataW H)} {before pa pv : List MemPlace}
    (hW : DataW.Whole enc P f.params.toList s.vars apart W args.toList ds gs before)
    (hres : ∀ (b : Nat) (sp : Nat → Bool) (hd : Bool), DataW.TrodAll enc P W' b sp hd f.resultTypes.toList (v.resultList f.resultTypes.size) (s.fn H (ds ++ gs)).results [])
    (hargs : ∀ sp : Nat → Bool, (∀ p ∈ before, sp p.block = true) → DataW.TrodAll enc P W' 0 sp true f.params.toList args.toList (s.fn H (ds ++ gs)).args pa)
    (hvars : ∀ sp : Nat → Bool, (∀ p ∈ before, sp p.block = true) → DataW.TrodVars enc P W' sp s.vars (s.fn H (ds ++ gs)).vars pv)
    (hps : before = pa ++ pv) (hb : Below W.heap.size W W')
    (hok : ∀ (j : Nat) (t : TypeId) (r : Value), f.resultTypes[j]? = some t → (v.resultList f.resultTypes.size)[j]? = some r → Value.okWide P W' .any 0 t r) :
    s.post enc P f apart fresh handsOn again W args v W' := by
  have hlt : ∀ p ∈ before, p.block < W.heap.size := fun p hp => hW.lt p hp
  have hold : ∀ p ∈ before, (fun b => decide (b < W.heap.size)) p.block = true := fun p hp => by simpa using hlt p hp
  refine ⟨ds, gs, before, [], pa, pv, hW, hres _ _ _, hargs _ hold, hvars _ hold, World.keptBut_mono (fun p hp => ⟨hp, ?_⟩) (hb.frame (· ∈ before)), fun _ => ?_⟩
  · rw [hps, List.mem_append] at hp
    exact Or.inr hp
  · obtain ⟨_, _, _, _, _, hz, hn⟩ := hW
    refine ⟨hok, _, _, ([] ++ pa) ++ pv, ⟨[] ++ pa, pv, trodAll_append (hargs _ (fun _ _ => rfl)) (hres _ _ _), hvars _ (fun _ _ => rfl), rfl, ?_, ?_⟩, ?_⟩
    · intro b off hp
      have hin : MemPlace.cell b off ∈ before := by rw [hps]; simpa using hp
      rw [hb.frozen (hlt _ hin)]
      exact hz b off hin
    · intro ha
      have := hn ha
      rw [hps] at this
      simpa using this
    · intro p hp _
      rw [hps]
      simpa using hp
end

theorem own : ownKnob Tryz.prog.godebug = none := by kernel_rfl

def theLaid : List (String × DataW Unit) := Rows.relayNamesRow.laid
theorem first_is : Rows.laid_unicode_utf8_first = Lib.firstData := by kernel_rfl
theorem accept_is : (Rows.laid_unicode_utf8_acceptRanges : DataW Unit) = Lib.acceptData := by kernel_rfl
theorem extra : U8Extra Tryz.prog Tryz.lays197_ren := {
  n3 := by kernel_rfl
  n4 := by kernel_rfl
  y3 := by kernel_rfl
  y4 := by kernel_rfl
  c5 := by kernel_rfl
  c119 := by kernel_rfl
  c138 := by kernel_rfl }
theorem u8types : U8Types Tryz.prog Tryz.lays197_ren := {
  t5 := Tryz.underlying5
  t119 := by kernel_rfl
  t138 := by kernel_rfl
  t139 := by kernel_rfl }
/-- What the rows' list gives: the two tables' cells. -/
theorem tabs {W : World} (h : laidMetH Tryz.prog theLaid W) : Lib.Utf8Tabs 4 5 W := by
  have h' : laidMet Tryz.prog theLaid W := h
  refine utf8Tabs_of_readsT (P := Tryz.prog) (ρ := Tryz.lays197_ren) u8types extra ?_ ?_
  · rw [← first_is]
    exact Lib.laidMet.reads h' (List.mem_cons_of_mem _ (List.mem_cons_of_mem _ (List.mem_cons_of_mem _ (List.mem_cons_of_mem _ (List.mem_cons_of_mem _ (List.mem_cons_of_mem _ (List.mem_cons_self ..)))))))
  · rw [← accept_is]
    exact Lib.laidMet.reads h' (List.mem_cons_of_mem _ (List.mem_cons_of_mem _ (List.mem_cons_of_mem _ (List.mem_cons_self ..))))
/-- The strings' cell. -/
theorem cell0 {W : World} (hs : W.ShapedOpen Tryz.prog) : ∃ m : Int, W.cell? ⟨0, 0, none⟩ = some (.int .i64 m) :=
  Go.Proofs.cell_of_shapedOpen_int (zero := #[.int .i64 0]) (t := 3) hs (of_decide_eq_true (by kernel_rfl)) (by kernel_rfl) rfl (by kernel_rfl) (by kernel_rfl) Tryz.underlying3

def accV : Array Value := ((List.range 32).map fun i => Value.int .u8 (if i % 2 = 0 then (Lib.accLo (i / 2) : Int) else (Lib.accHi (i / 2) : Int))).toArray
def litV : DataW Unit → Value
  | .lit (.int k n) => .int k n
  | _ => .nilFunc
def aggV : DataW Unit → Array Value
  | .agg l => (l.map litV).toArray
  | _ => #[]
def textOf : DataW Unit → ByteArray
  | .iface _ (.ptr (.agg [.lit (.string l)])) => ⟨l.toArray⟩
  | _ => ⟨#[]⟩
def layCells (xs : Array Value) : Obj → Obj
  | .cells _ t frozen => .cells xs t frozen
  | o => o
/-- A world for the witness: the settled one, the listed variables holding what their initialisers lay. -/
noncomputable def laidWorld (os : Os) : World :=
  { World.holding Tryz.prog os ⟨#[], #[], []⟩ with heap := ((((((((((World.holding Tryz.prog os ⟨#[], #[], []⟩).heap.modify 1 (layCells (aggV Rows.laid_internal_strconv_uint64pow10))).modify 2 (layCells #[.iface 312 (.pointer (some ⟨(World.holding Tryz.prog os ⟨#[], #[], []⟩).heap.size, 0, none⟩))])).modify 3 (layCells #[.iface 312 (.pointer (some ⟨(World.holding Tryz.prog os ⟨#[], #[], []⟩).heap.size + 1, 0, none⟩))])).modify 4 (layCells (Lib.firstTab.map (Value.int .u8)).toArray)).modify 5 (layCells accV)).modify 6 (layCells (aggV Rows.laid_math_bits_deBruijn32tab))).modify 7 (layCells (aggV Rows.laid_math_bits_deBruijn64tab))).push (.cells #[.string (textOf Rows.laid_strconv_ErrSyntax)] 314 (0, 0))).push (.cells #[.string (textOf Rows.laid_strconv_ErrRange)] 314 (0, 0))) }
theorem laid_run (os : Os) : laidMet Tryz.prog theLaid ((laidWorld os).forCall (fun _ _ => 0) ⟨#[], #[], []⟩).memory :=
  laidMet_of_run3 8 (by kernel_rfl) (by kernel_rfl) (by kernel_rfl)
end Go.Proofs.YtlgoeipgmjcboaaGreatDoor
