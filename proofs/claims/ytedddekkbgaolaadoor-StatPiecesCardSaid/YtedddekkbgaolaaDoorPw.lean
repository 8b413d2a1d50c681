/- Writers as pieces of memory; the law's own steps: numbers, raw, opens. -/
import Derived.Test.YtedddekkbgaolaaDoorPc
import Derived.Test.YtedddekkbgaolaaDoorVx
import Derived.Test.YtedddekkbgaolaaDoorOp
namespace Go.Proofs.YtedddekkbgaolaaDoor
open Go.RowKit Me

def Wr (T : TypeId) (a : Nat) (S : WSt) : Pc where
  A := fun w F => ∃ vb vo, IsW T w a S vb vo ∧ F = foot a vb vo
  mods := by
    rintro w w' F G ⟨vb, vo, h, rfl⟩ hm hn
    exact ⟨vb, vo, h.mods hm hn, rfl⟩
  lt := by
    rintro w F ⟨vb, vo, h, rfl⟩ k hk
    exact foot_lt h k hk
/-- The two writers, side by side. -/
def W2 (a c : Nat) (S V : WSt) : Pc := (Wr 122 a S).star (Wr 124 c V)
theorem Wr.of {T : TypeId} {w : World} {a : Nat} {S : WSt} {vb vo : Value} {F : List Nat} {w0 : World} (h : IsW T w a S vb vo) (hm : Mods F w0 w) (hF : ∀ k ∈ foot a vb vo, k ∈ F ∨ w0.heap.size ≤ k) : Post (Wr T a S) w0 F w := ⟨_, ⟨vb, vo, h, rfl⟩, hm, hF⟩
section
variable {T : TypeId} {w w0 : World} {a : Nat} {S S' : WSt} {f : FuncId} {args : Array Value} {x : Value} {F : List Nat} {r : Pc}
theorem Wr.turn {w' : World} (hc : ∀ vb vo, IsW T w a S vb vo → WPost T w a vb vo S' w') : ∀ F1, (Wr T a S).A w F1 → Post (Wr T a S') w F1 w' := by
  rintro F1 ⟨vb, vo, h, rfl⟩
  obtain ⟨vb', vo', h1, h2, h3⟩ := hc vb vo h
  exact Wr.of h1 h2 h3
theorem Wr.call (hc : ∀ vb vo, IsW T w a S vb vo → Calls Tryd.prog f args w fun e w' => e = .returned x ∧ WPost T w a vb vo S' w') :
    ∀ F1, (Wr T a S).A w F1 → Calls Tryd.prog f args w fun e w' => e = .returned x ∧ Post (Wr T a S') w F1 w' := by
  rintro F1 ⟨vb, vo, h, rfl⟩
  refine (hc vb vo h).mono fun e w' hh => ⟨hh.1, ?_⟩
  obtain ⟨vb', vo', h1, h2, h3⟩ := hh.2
  exact Wr.of h1 h2 h3
/-- A call on the front piece, a writer. -/
theorem Me.Post.wr (h : Post ((Wr T a S).star r) w0 F w) (hc : ∀ vb vo, IsW T w a S vb vo → Calls Tryd.prog f args w fun e w' => e = .returned x ∧ WPost T w a vb vo S' w') :
    Calls Tryd.prog f args w fun e w' => e = .returned x ∧ Post ((Wr T a S').star r) w0 F w' := h.call (Wr.call hc)
theorem Me.Post.isW (h : Post ((Wr T a S).star r) w0 F w) : ∃ vb vo, IsW T w a S vb vo := by
  obtain ⟨F1, vb, vo, h, _⟩ := h.front
  exact ⟨vb, vo, h⟩
end
section
variable {w w0 : World} {a c : Nat} {S S1 S' : WSt} {f g : FuncId} {args : Array Value} {x : Value} {F : List Nat} {r : Pc}
/-- The first of two has turned: the second comes to the front. -/
theorem Me.Post.swap2 (h : Post ((Wr 122 a S1).star ((Wr 124 c S).star r)) w0 F w) : Post ((Wr 124 c S).star ((Wr 122 a S1).star r)) w0 F w := h.ent (Pc.Ent.swap _ _ _)
theorem Me.Post.swap1 (h : Post ((Wr 124 c S).star ((Wr 122 a S1).star r)) w0 F w) : Post ((Wr 122 a S1).star ((Wr 124 c S).star r)) w0 F w := h.ent (Pc.Ent.swap _ _ _)
end
end Go.Proofs.YtedddekkbgaolaaDoor
