/- A writer that was made since the world had lo blocks, beside blocks of a list K, which stay when it writes. -/
import Derived.Test.YtedddekkbgaolaaDoorWa
namespace Go.Proofs.YtedddekkbgaolaaDoor
open Go.RowKit Me

def WOff (T : TypeId) (lo : Nat) (w : World) (a : Nat) (S : WSt) (K : List Nat) : Prop :=
  ∃ vb vo, IsW T w a S vb vo ∧ (∀ k ∈ foot a vb vo, lo ≤ k) ∧ ∀ k ∈ K, k < w.heap.size ∧ k ∉ foot a vb vo
/-- What a step of the writer changes: nothing below lo, and none of K. -/
def Side (lo : Nat) (K : List Nat) (w w' : World) : Prop := ∃ F, Mods F w w' ∧ (∀ k ∈ F, lo ≤ k) ∧ ∀ k ∈ K, k ∉ F
theorem Side.mods {w0 w w' : World} {K : List Nat} (h : Side w0.heap.size K w w') (hm : Mods [] w0 w) : Mods [] w0 w' := by
  obtain ⟨F, h1, h2, _⟩ := h
  exact hm.trans h1 (fun b hb => Or.inr (h2 b hb))
theorem Side.row {lo : Nat} {w w' : World} {K : List Nat} (h : Side lo K w w') {base : Nat} {e : TypeId} {size : Nat} {v : Value} {n : Nat} {xs : List Value} (ho : w.ownsRow base e size v n xs) (hk : ∀ k, v.ownBlock = some k → k ∈ K) : w'.ownsRow base e size v n xs := by
  obtain ⟨F, h1, _, h3⟩ := h
  exact ownsRow_mods ho h1 (fun k hv => h3 k (hk k hv))
theorem Side.heap {lo : Nat} {w w' : World} {K : List Nat} (h : Side lo K w w') {k : Nat} {o : Obj} (ho : w.heap[k]? = some o) (hk : k ∈ K) : w'.heap[k]? = some o := by
  obtain ⟨F, h1, _, h3⟩ := h
  exact h1.heap ho (h3 k hk)
theorem Side.size {lo : Nat} {w w' : World} {K : List Nat} (h : Side lo K w w') : w.heap.size ≤ w'.heap.size := by
  obtain ⟨F, h1, _⟩ := h
  exact h1.size
theorem WOff.call {T : TypeId} {lo : Nat} {w : World} {a : Nat} {S S' : WSt} {K : List Nat} {f : FuncId} {args : Array Value} {x : Value} (h : WOff T lo w a S K) (hlo : lo ≤ w.heap.size)
    (hc : ∀ vb vo, IsW T w a S vb vo → Calls Tryd.prog f args w fun e w' => e = .returned x ∧ WPost T w a vb vo S' w') :
    Calls Tryd.prog f args w fun e w' => e = .returned x ∧ WOff T lo w' a S' K ∧ Side lo K w w' := by
  obtain ⟨vb, vo, h1, h2, h3⟩ := h
  refine (hc vb vo h1).mono fun e w' hh => ⟨hh.1, ?_⟩
  obtain ⟨vb', vo', g1, g2, g3⟩ := hh.2
  refine ⟨⟨vb', vo', g1, fun k hk => ?_, fun k hk => ⟨Nat.lt_of_lt_of_le (h3 k hk).1 g2.size, fun hm => ?_⟩⟩, foot a vb vo, g2, h2, fun k hk => (h3 k hk).2⟩
  · rcases g3 k hk with h | h
    · exact h2 k h
    · omega
  · rcases g3 k hm with h | h
    · exact (h3 k hk).2 h
    · have := (h3 k hk).1
      omega
/-- Other blocks change, or are made. -/
theorem WOff.beside {T : TypeId} {lo : Nat} {w w' : World} {a : Nat} {S : WSt} {K K' G : List Nat} (h : WOff T lo w a S K) (hm : Mods G w w') (hG : ∀ k ∈ G, k ∈ K) (hK : ∀ k ∈ K', k < w'.heap.size ∧ (k ∈ K ∨ w.heap.size ≤ k)) : WOff T lo w' a S K' := by
  obtain ⟨vb, vo, h1, h2, h3⟩ := h
  have hf : ∀ k ∈ foot a vb vo, k ∉ G := fun k hk hg => (h3 k (hG k hg)).2 hk
  refine ⟨vb, vo, h1.mods hm hf, h2, fun k hk => ⟨(hK k hk).1, fun hmm => ?_⟩⟩
  rcases (hK k hk).2 with h | h
  · exact (h3 k h).2 hmm
  · have := foot_lt h1 k hmm
    omega
theorem WOff.still {T : TypeId} {lo : Nat} {w w' : World} {a : Nat} {S : WSt} {K : List Nat} (h : WOff T lo w a S K) (hm : Mods [] w w') : WOff T lo w' a S K := by
  obtain ⟨vb, vo, h1, h2, h3⟩ := h
  refine ⟨vb, vo, h1.mods hm (by simp), h2, fun k hk => ⟨Nat.lt_of_lt_of_le (h3 k hk).1 hm.size, (h3 k hk).2⟩⟩
theorem WOff.sub {T : TypeId} {lo : Nat} {w : World} {a : Nat} {S : WSt} {K K' : List Nat} (h : WOff T lo w a S K) (hK : ∀ k ∈ K', k ∈ K) : WOff T lo w a S K' := by
  obtain ⟨vb, vo, h1, h2, h3⟩ := h
  exact ⟨vb, vo, h1, h2, fun k hk => h3 k (hK k hk)⟩
theorem WOff.new {T : TypeId} {lo : Nat} {w : World} {a : Nat} {S : WSt} {vb vo : Value} (h : IsW T w a S vb vo) (h2 : ∀ k ∈ foot a vb vo, lo ≤ k) : WOff T lo w a S [] := ⟨vb, vo, h, h2, by simp⟩
end Go.Proofs.YtedddekkbgaolaaDoor
