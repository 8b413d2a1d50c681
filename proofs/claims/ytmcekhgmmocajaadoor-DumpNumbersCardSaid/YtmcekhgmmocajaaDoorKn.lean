/- A writer of one's own, its calls; known. -/
import Derived.Test.YtmcekhgmmocajaaDoorSm
namespace Go.Proofs.YtmcekhgmmocajaaDoor
open Go.RowKit Me

theorem tabs_mods {w w' : World} (h : Mods [] w w') (hT : Lib.Utf8Tabs 1 2 w) : Lib.Utf8Tabs 1 2 w' := tabs_keep (h.toBelow (by simp)) hT

/-- A writer that was made since w0, and nothing that was there ahead has changed since. -/
def OwnW (T : TypeId) (w0 w : World) (a : Nat) (S : WSt) : Prop := Mods [] w0 w ∧ ∃ vb vo, IsW T w a S vb vo ∧ ∀ k ∈ foot a vb vo, w0.heap.size ≤ k
theorem OwnW.next {T : TypeId} {w0 w w' : World} {a : Nat} {S' : WSt} {vb vo : Value} (hm : Mods [] w0 w) (hk : ∀ k ∈ foot a vb vo, w0.heap.size ≤ k) (h : WPost T w a vb vo S' w') : OwnW T w0 w' a S' := by
  obtain ⟨vb', vo', h1, h2, h3⟩ := h
  refine ⟨hm.trans h2 (fun b hb => Or.inr (hk b hb)), vb', vo', h1, fun k hh => ?_⟩
  rcases h3 k hh with h | h
  · exact hk k h
  · exact Nat.le_trans hm.size h
theorem OwnW.still {T : TypeId} {w0 w w' : World} {a : Nat} {S : WSt} (h : OwnW T w0 w a S) (hm : Mods [] w w') : OwnW T w0 w' a S := by
  obtain ⟨h0, vb, vo, h1, hk⟩ := h
  exact ⟨h0.trans hm (fun _ h => Or.inl h), vb, vo, h1.mods hm (fun _ _ h => by cases h), hk⟩

/-- A reader that was made since w0, and nothing that was there ahead has changed since. -/
def OwnR (T : TypeId) (w0 w : World) (a : Nat) (S : RSt) (vb : Value) : Prop := Mods [] w0 w ∧ IsR T w a S vb ∧ w0.heap.size ≤ a ∧ ∀ k, vb.ownBlock = some k → k < w.heap.size
theorem OwnR.next {T : TypeId} {w0 w w' : World} {a : Nat} {S S' : RSt} {vb : Value} (h : OwnR T w0 w a S vb) (hp : RPost T w a vb S' w') : OwnR T w0 w' a S' vb :=
  ⟨h.1.trans hp.2 (fun b hb => by simp at hb; subst hb; exact Or.inr h.2.2.1), hp.1, h.2.2.1, fun k hk => Nat.lt_of_lt_of_le (h.2.2.2 k hk) hp.2.size⟩
theorem OwnR.drewN {T : TypeId} {w0 w : World} {a : Nat} {S : RSt} {vb : Value} (h : OwnR T w0 w a S vb) (k : Nat) : OwnR T w0 (w.drewN k) a S vb := ⟨h.1.drewN k, h.2.1.drewN k, h.2.2.1, h.2.2.2⟩
/-- Another reader has gone on. -/
theorem OwnR.other {T T' : TypeId} {w0 w w' : World} {a b : Nat} {S R R' : RSt} {vb vc : Value} (h : OwnR T w0 w a S vb) (hb : OwnR T' w0 w b R vc) (hp : RPost T' w b vc R' w') (hab : a ≠ b) (hn : vb.ownBlock ≠ some b) : OwnR T w0 w' a S vb :=
  ⟨h.1.trans hp.2 (fun c hc => by simp at hc; subst hc; exact Or.inr hb.2.2.1), h.2.1.mods hp.2 (by simpa using hab) (fun k hk => by simp; intro e; subst e; exact hn hk), h.2.2.1, fun k hk => Nat.lt_of_lt_of_le (h.2.2.2 k hk) hp.2.size⟩

def k1 : WSt := ⟨20, [2, 1], [], 0⟩
def k2 : WSt := ⟨20, [2, 1, 0, 0], [2], 0⟩
def k3 : WSt := ⟨20, [2, 1, 0, 0, 7], [2], 0⟩
def k4 : WSt := ⟨20, [2, 1, 0, 0, 7, 2, 0, 97, 98], [2], 0⟩
def k5 : WSt := ⟨20, [2, 1, 5, 0, 7, 2, 0, 97, 98], [], 0⟩
def r1 : RSt := ⟨[2, 1, 5, 0, 7, 2, 0, 97, 98], 2, 0, 0, 0⟩
def r2 : RSt := ⟨[2, 1, 5, 0, 7, 2, 0, 97, 98], 9, 0, 0, 0⟩
def p0 : RSt := ⟨[7, 2, 0, 97, 98], 0, 4, 0, 0⟩
end Go.Proofs.YtmcekhgmmocajaaDoor
