/- A region that draws its order and holds calls that make memory: one walk, in every world in which nothing old has changed. Over any program. -/
import Derived.Test.YtedddekkbgaolaaDoorMem
import Derived.Laws.Rows
namespace Go.Proofs.YtedddekkbgaolaaDoor.Me
open Go Go.RowKit

/-- The worlds in which what was there in w is as it was. -/
def InC (w w' : World) : Prop := Mods [] w w'
theorem InC.drew (w : World) : InC w w.drew := (Mods.refl [] w).drew
section
variable {P : Program} {ops : Array Oper} {C : World → Prop}
theorem wpQuiet_plain {Q : Act → Prop} {a : Act} {o : Oper} {rest : List Oper} (hg : o.guard = none) (h : o.quiet P a C (wpQuiet P ops C Q rest)) : wpQuiet P ops C Q (o :: rest) a := by
  unfold wpQuiet
  rw [if_pos (by simp [Region.wanted, hg])]
  exact h
theorem wpQuiet_load_row {Q : Act → Prop} {a : Act} {o : Oper} {rest : List Oper} (hgd : o.guard = none) (ty : TypeId) (x : Operand) (ho : o.op = .load ty x)
    (g : Nat) (hx : a.eval x = .pointer (some ⟨g, 0, none⟩)) (t : TypeId) (cs : Array Value) (fr : Nat × Nat) (d : TypeDesc) (hg : ∀ w', C w' → w'.heap[g]? = some (.cells cs t fr))
    (hu : P.underlying ty = some d) (hd : (match d with | .struct _ | .array _ _ => true | _ => false) = true) (hi : (P.info? ty).map (·.size) = some cs.size)
    (h : wpQuiet P ops C Q rest (a.put o.dst (.agg cs))) : wpQuiet P ops C Q (o :: rest) a := by
  refine wpQuiet_plain hgd ⟨.agg cs, fun w' hw' => ?_, h⟩
  unfold Oper.quietAt execOp
  simp only [ho, hx, Instr.loadAt, Instr.sureAddr, Sem.run_bind, Sem.run_pure, Result.andThen_ok, run_loadVar_row w' g t ty cs fr d (hg w' hw') hu hd hi]
  exact ⟨rfl, rfl⟩
end
end Go.Proofs.YtedddekkbgaolaaDoor.Me
