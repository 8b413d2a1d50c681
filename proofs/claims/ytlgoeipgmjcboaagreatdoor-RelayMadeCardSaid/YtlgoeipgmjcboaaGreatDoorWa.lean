/- Calls of a writer, one behind the other; stat.PutQid. -/
import Derived.Test.YtlgoeipgmjcboaaGreatDoorKn
namespace Go.Proofs.YtlgoeipgmjcboaaGreatDoor
open Go.RowKit Me

theorem WPost.start {T : TypeId} {w : World} {a : Nat} {S : WSt} {vb vo : Value} (h : IsW T w a S vb vo) : WPost T w a vb vo S w :=
  ⟨vb, vo, h, Mods.refl _ _, fun _ hk => Or.inl hk⟩
theorem WPost.trans {T : TypeId} {w0 w w' : World} {a : Nat} {S S' : WSt} {vb0 vo0 : Value} (h : WPost T w0 a vb0 vo0 S w)
    (hn : ∀ vb vo, IsW T w a S vb vo → WPost T w a vb vo S' w') : WPost T w0 a vb0 vo0 S' w' := by
  obtain ⟨vb, vo, h1, h2, h3⟩ := h
  obtain ⟨vb', vo', g1, g2, g3⟩ := hn vb vo h1
  refine ⟨vb', vo', g1, h2.trans g2 h3, fun k hk => ?_⟩
  rcases g3 k hk with h | h
  · exact h3 k h
  · exact Or.inr (Nat.le_trans h2.size h)
theorem WPost.still {T : TypeId} {w0 w w' : World} {a : Nat} {S : WSt} {vb0 vo0 : Value} (h : WPost T w0 a vb0 vo0 S w) (hm : Mods [] w w') : WPost T w0 a vb0 vo0 S w' :=
  h.trans fun vb vo hi => ⟨vb, vo, hi.mods hm (fun _ _ h => by cases h), hm.mono (fun _ h => by cases h), fun _ hk => Or.inl hk⟩
/-- One call more. -/
theorem WPost.call {T : TypeId} {w0 w : World} {a : Nat} {S S' : WSt} {vb0 vo0 : Value} {f : FuncId} {args : Array Value} {x : Value} (h : WPost T w0 a vb0 vo0 S w)
    (hc : ∀ vb vo, IsW T w a S vb vo → Calls Tryz.prog f args w fun e w' => e = .returned x ∧ WPost T w a vb vo S' w') : Calls Tryz.prog f args w fun e w' => e = .returned x ∧ WPost T w0 a vb0 vo0 S' w' := by
  have h' := h
  obtain ⟨vb, vo, h1, h2, h3⟩ := h
  refine (hc vb vo h1).mono fun e w' hh => ⟨hh.1, ?_⟩
  obtain ⟨vb', vo', g1, g2, g3⟩ := hh.2
  refine ⟨vb', vo', g1, h2.trans g2 h3, fun k hk => ?_⟩
  rcases g3 k hk with h | h
  · exact h3 k h
  · exact Or.inr (Nat.le_trans h2.size h)
/-- A writer that goes on from where it stood, and blocks apart from it, which stay. -/
def WAt (T : TypeId) (w0 : World) (a : Nat) (vb0 vo0 : Value) (K : Nat → Prop) (S : WSt) (w : World) : Prop :=
  ∃ vb vo, IsW T w a S vb vo ∧ Mods (foot a vb0 vo0) w0 w ∧ (∀ k ∈ foot a vb vo, k ∈ foot a vb0 vo0 ∨ w0.heap.size ≤ k) ∧ ∀ k, K k → k < w.heap.size ∧ k ∉ foot a vb vo
theorem foot_lt {T : TypeId} {w : World} {a : Nat} {S : WSt} {vb vo : Value} (h : IsW T w a S vb vo) : ∀ k ∈ foot a vb vo, k < w.heap.size := by
  intro k hk
  rcases mem_foot.1 hk with rfl | hk | hk
  · exact (Array.getElem?_eq_some_iff.1 h.cells).1
  · exact ownsRow_lt h.b k hk
  · exact ownsRow_lt h.o k hk
theorem WAt.start {T : TypeId} {w : World} {a : Nat} {S : WSt} {vb vo : Value} (h : IsW T w a S vb vo) : WAt T w a vb vo (fun _ => False) S w :=
  ⟨vb, vo, h, Mods.refl _ _, fun _ hk => Or.inl hk, fun _ hk => hk.elim⟩
theorem WAt.post {T : TypeId} {w0 w : World} {a : Nat} {S : WSt} {vb0 vo0 : Value} {K : Nat → Prop} (h : WAt T w0 a vb0 vo0 K S w) : WPost T w0 a vb0 vo0 S w := by
  obtain ⟨vb, vo, h1, h2, h3, _⟩ := h
  exact ⟨vb, vo, h1, h2, h3⟩
/-- A block more is made, and kept. -/
theorem WAt.alloc {T : TypeId} {w0 w : World} {a : Nat} {S : WSt} {vb0 vo0 : Value} {K : Nat → Prop} (h : WAt T w0 a vb0 vo0 K S w) (o : Obj) : WAt T w0 a vb0 vo0 (fun k => K k ∨ k = w.heap.size) S (w.alloc o) := by
  obtain ⟨vb, vo, h1, h2, h3, h4⟩ := h
  refine ⟨vb, vo, h1.mods ((Mods.refl [] _).alloc o) (fun _ _ h => by cases h), h2.alloc o, h3, fun k hk => ?_⟩
  rcases hk with hk | rfl
  · have := h4 k hk
    exact ⟨by simp; omega, this.2⟩
  · exact ⟨by simp, fun hm => by have := foot_lt h1 _ hm; omega⟩
theorem WAt.drewN {T : TypeId} {w0 w : World} {a : Nat} {S : WSt} {vb0 vo0 : Value} {K : Nat → Prop} (h : WAt T w0 a vb0 vo0 K S w) (n : Nat) : WAt T w0 a vb0 vo0 K S (w.drewN n) := by
  obtain ⟨vb, vo, h1, h2, h3, h4⟩ := h
  exact ⟨vb, vo, h1.drewN n, h2.drewN n, h3, h4⟩
/-- One call more: what is kept stays. -/
theorem WAt.call {T : TypeId} {w0 w : World} {a : Nat} {S S' : WSt} {vb0 vo0 : Value} {K : Nat → Prop} {f : FuncId} {args : Array Value} {x : Value} (h : WAt T w0 a vb0 vo0 K S w)
    (hc : ∀ vb vo, IsW T w a S vb vo → Calls Tryz.prog f args w fun e w' => e = .returned x ∧ WPost T w a vb vo S' w') :
    Calls Tryz.prog f args w fun e w' => e = .returned x ∧ WAt T w0 a vb0 vo0 K S' w' ∧ ∀ k, K k → w'.heap[k]? = w.heap[k]? := by
  obtain ⟨vb, vo, h1, h2, h3, h4⟩ := h
  refine (hc vb vo h1).mono fun e w' hh => ⟨hh.1, ?_⟩
  obtain ⟨vb', vo', g1, g2, g3⟩ := hh.2
  refine ⟨⟨vb', vo', g1, h2.trans g2 h3, fun k hk => ?_, fun k hk => ?_⟩, fun k hk => g2.block k (h4 k hk).1 (h4 k hk).2⟩
  · rcases g3 k hk with h | h
    · exact h3 k h
    · exact Or.inr (Nat.le_trans h2.size h)
  · have := h4 k hk
    refine ⟨Nat.lt_of_lt_of_le this.1 g2.size, fun hm => ?_⟩
    rcases g3 k hm with h | h
    · exact this.2 h
    · omega
end Go.Proofs.YtlgoeipgmjcboaaGreatDoor
