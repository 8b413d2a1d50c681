/- Readers side by side in memory: a stack of them. -/
import Derived.Test.YtedddekkbgaolaaDoorSc
namespace Go.Proofs.YtedddekkbgaolaaDoor
open Go.RowKit Me

structure RB where
  a : Nat
  R : RSt
  v : Value
def RB.p (x : RB) : Value := .pointer (some ⟨x.a, 0, none⟩)
/-- Readers, each in a block of its own, made since the world had lo blocks; the rows that they read lie below B. -/
structure Stand (lo B : Nat) (w : World) (L : List RB) : Prop where
  is : ∀ x ∈ L, IsR 130 w x.a x.R x.v
  lo : ∀ x ∈ L, lo ≤ x.a
  lt : ∀ x ∈ L, ∀ k, x.v.ownBlock = some k → k < B
  ne : ∀ x ∈ L, ∀ y ∈ L, x.v.ownBlock ≠ some y.a
  nd : L.Pairwise fun x y => x.a ≠ y.a
section
variable {lo B : Nat} {w w' : World} {L : List RB} {x : RB} {F : List Nat}
theorem Stand.mods (h : Stand lo B w L) (hm : Mods F w w') (h1 : ∀ x ∈ L, x.a ∉ F) (h2 : ∀ k ∈ F, B ≤ k) : Stand lo B w' L :=
  ⟨fun x hx => (h.is x hx).mods hm (h1 x hx) (fun k hk hf => by have := h.lt x hx k hk; have := h2 k hf; omega), h.lo, h.lt, h.ne, h.nd⟩
theorem Stand.still (h : Stand lo B w L) (hm : Mods [] w w') : Stand lo B w' L := h.mods hm (by simp) (by simp)
theorem Stand.tail (h : Stand lo B w (x :: L)) : Stand lo B w L :=
  ⟨fun y hy => h.is y (List.mem_cons_of_mem _ hy), fun y hy => h.lo y (List.mem_cons_of_mem _ hy), fun y hy => h.lt y (List.mem_cons_of_mem _ hy), fun y hy z hz => h.ne y (List.mem_cons_of_mem _ hy) z (List.mem_cons_of_mem _ hz), h.nd.of_cons⟩
theorem Stand.head (h : Stand lo B w (x :: L)) : IsR 130 w x.a x.R x.v := h.is x (by simp)
theorem Stand.next {a : Nat} {S S' : RSt} {v : Value} (h : Stand lo B w (⟨a, S, v⟩ :: L)) (hp : RPost 130 w a v S' w') : Stand lo B w' (⟨a, S', v⟩ :: L) := by
  have hne := List.pairwise_cons.1 h.nd
  have key : ∀ z ∈ (⟨a, S', v⟩ :: L : List RB), ∃ z' ∈ (⟨a, S, v⟩ :: L : List RB), z'.a = z.a ∧ z'.v = z.v := by
    intro z hz
    rcases List.mem_cons.1 hz with rfl | hz
    · exact ⟨_, List.mem_cons_self, rfl, rfl⟩
    · exact ⟨z, List.mem_cons_of_mem _ hz, rfl, rfl⟩
  refine ⟨fun x hx => ?_, fun x hx => ?_, fun x hx => ?_, fun x hx y hy => ?_, List.pairwise_cons.2 ⟨hne.1, hne.2⟩⟩
  · rcases List.mem_cons.1 hx with rfl | hx
    · exact hp.1
    · refine (h.is x (List.mem_cons_of_mem _ hx)).mods hp.2 ?_ ?_
      · have := hne.1 x hx
        simp
        exact fun e => this e.symm
      · intro k hk hm
        have hka : k = a := by simpa using hm
        rw [hka] at hk
        exact h.ne x (List.mem_cons_of_mem _ hx) ⟨a, S, v⟩ (List.mem_cons_self) hk
  · obtain ⟨x', hx', e1, _⟩ := key x hx
    rw [← e1]
    exact h.lo x' hx'
  · obtain ⟨x', hx', _, e2⟩ := key x hx
    rw [← e2]
    exact h.lt x' hx'
  · obtain ⟨x', hx', e1, e2⟩ := key x hx
    obtain ⟨y', hy', e3, e4⟩ := key y hy
    rw [← e2, ← e3]
    exact h.ne x' hx' y' hy'
theorem Stand.lt_size (h : Stand lo B w L) (hx : x ∈ L) : x.a < w.heap.size := by
  have := (h.is x hx).cells
  exact (Array.getElem?_eq_some_iff.1 this).1
/-- A new reader that reads what the first one reads. -/
theorem Stand.push {p : Nat} {S : RSt} {vp : Value} (h : Stand lo B w (x :: L)) (hp : IsR 130 w p S vp) (hlo : lo ≤ p) (hn : ∀ y ∈ x :: L, y.a ≠ p) (hB : B ≤ p) (hv : ∀ k, vp.ownBlock = some k → x.v.ownBlock = some k) : Stand lo B w (⟨p, S, vp⟩ :: x :: L) := by
  refine ⟨fun y hy => ?_, fun y hy => ?_, fun y hy => ?_, fun y hy z hz => ?_, List.pairwise_cons.2 ⟨fun y hy => (hn y hy).symm, h.nd⟩⟩
  · rcases List.mem_cons.1 hy with rfl | hy
    · exact hp
    · exact h.is y hy
  · rcases List.mem_cons.1 hy with rfl | hy
    · exact hlo
    · exact h.lo y hy
  · rcases List.mem_cons.1 hy with rfl | hy
    · exact fun k hk => h.lt x (by simp) k (hv k hk)
    · exact h.lt y hy
  · rcases List.mem_cons.1 hy with rfl | hy <;> rcases List.mem_cons.1 hz with rfl | hz
    · exact hp.na
    · exact fun e => h.ne x (by simp) z hz (hv _ e)
    · intro e
      have : p < B := h.lt y hy _ e
      omega
    · exact h.ne y hy z hz
theorem Stand.part {a : Nat} {S : RSt} {v : Value} {r : RSt × RSt} {e : Ending} (h : Stand lo B w (⟨a, S, v⟩ :: L)) (hlo : lo ≤ w.heap.size) (hB : B ≤ w.heap.size) (hp : PartPost 130 w a v r e w') :
    ∃ p vp, e = .returned (.pointer (some ⟨p, 0, none⟩)) ∧ w.heap.size ≤ p ∧ Mods [a] w w' ∧ Stand lo B w' (⟨p, r.1, vp⟩ :: ⟨a, r.2, v⟩ :: L) := by
  obtain ⟨p, vp, e1, h1, h2, h3, h4⟩ := hp
  refine ⟨p, vp, e1, h2, h4.2, (h.next h4).push h1 (by omega) (fun y hy => ?_) (by omega) h3⟩
  have hlt : y.a < w.heap.size := by
    rcases List.mem_cons.1 hy with rfl | hy
    · exact h.lt_size (x := ⟨a, S, v⟩) (by simp)
    · exact h.lt_size (x := y) (List.mem_cons_of_mem _ hy)
  omega
theorem Stand.one {a : Nat} {S : RSt} {v : Value} (h : IsR 130 w a S v) (hlo : lo ≤ a) (hB : ∀ k, v.ownBlock = some k → k < B) : Stand lo B w [⟨a, S, v⟩] := by
  refine ⟨fun x hx => ?_, fun x hx => ?_, fun x hx => ?_, fun x hx y hy => ?_, List.pairwise_singleton _ _⟩
  all_goals simp at *
  all_goals subst_vars
  · exact h
  · exact hlo
  · exact hB
  · exact h.na
end
end Go.Proofs.YtedddekkbgaolaaDoor
