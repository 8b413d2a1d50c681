/- A script in memory: a slice of steps (vergerlaw01.Op), six cells each. -/
import Derived.Test.YtedddekkbgaolaaDoorOp
import Derived.Deep.MidRow
namespace Go.Proofs.YtedddekkbgaolaaDoor
open Go.RowKit Me

def opC (o : OpP) (vb : Value) : List Value := [.int .i64 o.who, .int .i64 o.kind, .int .u64 (o.n : Int), .int .i64 o.k, vb, .string o.s]
theorem opV_eq (o : OpP) (vb : Value) : opV o vb = .agg (opC o vb).toArray := rfl
theorem opC_len (p : OpP × Value) : (opC p.1 p.2).length = 6 := rfl
/-- What can be read of a step's bytes. -/
def OpIn (w : World) (p : OpP × Value) : Prop := p.1.Fits ∧ Rd w p.2 (p.1.b.map byteV)
theorem OpIn.mods {w w' : World} {p : OpP × Value} (h : OpIn w p) (hm : Mods [] w w') : OpIn w' p := ⟨h.1, h.2.mods hm (by simp)⟩
/-- A slice of steps. -/
def Ops (w : World) (v : Value) (L : List (OpP × Value)) : Prop :=
  ∃ A c, v = .slice A L.length c ∧ L.length ≤ c ∧ c ≤ maxLen ∧ ∀ i p, L[i]? = some p → ∃ g off, A = some ⟨g, off, none⟩ ∧ w.rangeAt g (off + i * 6) (opC p.1 p.2)
theorem rangeAt_mods {w w' : World} {F : List Nat} {g o : Nat} {cs : List Value} (h : w.rangeAt g o cs) (hm : Mods F w w') (hn : g ∉ F) : w'.rangeAt g o cs := by
  intro j v hj
  have hc := h j v hj
  rw [hm.cell (p := ⟨g, o + j, none⟩) (World.block_lt_of_cell? w _ hc) hn]
  exact hc
theorem Ops.mods {w w' : World} {v : Value} {L : List (OpP × Value)} (h : Ops w v L) (hm : Mods [] w w') : Ops w' v L := by
  obtain ⟨A, c, e, h1, h2, h3⟩ := h
  refine ⟨A, c, e, h1, h2, fun i p hp => ?_⟩
  obtain ⟨g, off, e1, h4⟩ := h3 i p hp
  exact ⟨g, off, e1, rangeAt_mods h4 hm (by simp)⟩
theorem Ops.at {w : World} {A : Option Addr} {n c : Nat} {L : List (OpP × Value)} (h : Ops w (.slice A n c) L) (i : Nat) (p : OpP × Value) (hp : L[i]? = some p) :
    ∃ g off, A = some ⟨g, off, none⟩ ∧ w.rangeAt g (off + i * 6) (opC p.1 p.2) := by
  obtain ⟨A', c', e, _, _, h3⟩ := h
  injection e with e0 _ _
  subst e0
  exact h3 i p hp
def opsC (L : List (OpP × Value)) : List Value := L.flatMap fun p => opC p.1 p.2
theorem opsC_length (L : List (OpP × Value)) : (opsC L).length = L.length * 6 := by
  induction L with
  | nil => rfl
  | cons p L ih =>
    show (opC p.1 p.2 ++ opsC L).length = _
    rw [List.length_append, ih, List.length_cons, opC_len]
    omega
theorem opsC_at : ∀ (L : List (OpP × Value)) (i j : Nat) (p : OpP × Value), L[i]? = some p → j < 6 → (opsC L)[i * 6 + j]? = (opC p.1 p.2)[j]?
  | [], i, j, p, h, _ => by simp at h
  | q :: L, 0, j, p, h, hj => by
    simp at h
    subst h
    show (opC q.1 q.2 ++ opsC L)[0 * 6 + j]? = _
    rw [List.getElem?_append_left (by rw [opC_len]; omega)]
    congr 1
    omega
  | q :: L, i + 1, j, p, h, hj => by
    show (opC q.1 q.2 ++ opsC L)[(i + 1) * 6 + j]? = _
    rw [List.getElem?_append_right (by rw [opC_len]; omega), opC_len, show (i + 1) * 6 + j - 6 = i * 6 + j by omega]
    exact opsC_at L i j p (by simpa using h) hj
theorem opsC_snoc (L : List (OpP × Value)) (p : OpP × Value) : opsC (L ++ [p]) = opsC L ++ opC p.1 p.2 := by simp [opsC]
/-- A row of steps that a call has made. -/
theorem Ops.of_own {w : World} {base : Nat} {e : TypeId} {v : Value} {n : Nat} {L : List (OpP × Value)} (h : w.ownsRow base e 6 v n (opsC L)) (hn : n = L.length) : Ops w v L := by
  rcases ownsRow_form h with ⟨rfl, h1, h2⟩ | ⟨g, cap, rfl, h1, h2, _⟩
  · subst hn
    have hl : L = [] := List.eq_nil_of_length_eq_zero h1
    subst hl
    exact ⟨none, 0, rfl, Nat.le_refl _, by unfold maxLen; omega, fun i p hp => by simp at hp⟩
  · subst hn
    refine ⟨_, cap, rfl, h1, h2, fun i p hp => ⟨g, 0, rfl, fun j u hu => ?_⟩⟩
    have hj : j < 6 := by have := (List.getElem?_eq_some_iff.1 hu).1; rwa [opC_len] at this
    have := h.cells (g := g) rfl (i * 6 + j) u (by rw [opsC_at L i j p hp hj]; exact hu)
    rw [Addr.add_lit] at this
    simpa [Nat.add_assoc] using this
end Go.Proofs.YtedddekkbgaolaaDoor
