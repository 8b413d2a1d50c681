/- The walk of same: are two lists of bytes the same? -/
import Derived.Test.YtmcekhgmmocajaaDoorRp
namespace Go.Proofs.YtmcekhgmmocajaaDoor
open Go.RowKit Me

theorem rd_at {w : World} {A : Option Addr} {n c : Nat} {l : List UInt8} (h : Rd w (.slice A n c) (l.map byteV)) {j : Nat} (hj : j < l.length) : ∃ g off, A = some ⟨g, off, none⟩ ∧ w.cell? ⟨g, off + j, none⟩ = some (.int .u8 (l[j].toNat : Int)) := by
  obtain ⟨A', c', e, h1, h2, h3⟩ := h
  injection e with e0 _ _
  rw [e0]
  exact h3 j (byteV l[j]) (by simp [hj])

end Go.Proofs.YtmcekhgmmocajaaDoor
