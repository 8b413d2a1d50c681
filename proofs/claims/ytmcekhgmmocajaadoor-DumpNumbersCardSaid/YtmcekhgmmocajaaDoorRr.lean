/- The walk of a reader's Raw. -/
import Derived.Test.YtmcekhgmmocajaaDoorRt
import Derived.Test.YtmcekhgmmocajaaDoorWu
import Derived.StillTailTactics
namespace Go.Proofs.YtmcekhgmmocajaaDoor
open Go.RowKit Me

/-- A piece of a slice reads as a piece of it. -/
theorem rd_part {w : World} {g off c m p n : Nat} {xs : List Value} (h : Rd w (.slice (some ⟨g, off, none⟩) m c) xs) (_hm : xs.length = m) (hp : p + n ≤ m) :
    Rd w (.slice (if c = p then some ⟨g, off, none⟩ else some ⟨g, off + p, none⟩) n (c - p)) ((xs.drop p).take n) := by
  obtain ⟨A, c', e, h1, h2, h3⟩ := h
  cases e
  have hl : ((xs.drop p).take n).length = n := by simp; omega
  refine ⟨_, _, by rw [hl], by omega, by omega, fun j u hu => ?_⟩
  have hj : j < n := by rw [← hl]; exact (List.getElem?_eq_some_iff.1 hu).1
  have hu' : xs[p + j]? = some u := by
    rw [List.getElem?_take, if_pos hj, List.getElem?_drop] at hu
    exact hu
  obtain ⟨g', off', e', hc⟩ := h3 _ _ hu'
  cases e'
  refine ⟨g, off + p, by rw [if_neg (by omega)], ?_⟩
  rw [Nat.add_assoc]
  exact hc

end Go.Proofs.YtmcekhgmmocajaaDoor
