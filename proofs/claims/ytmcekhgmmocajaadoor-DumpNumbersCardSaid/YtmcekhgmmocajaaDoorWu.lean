/- The walk of the writer's Shut. -/
import Derived.Test.YtmcekhgmmocajaaDoorWt
namespace Go.Proofs.YtmcekhgmmocajaaDoor
open Go.RowKit Me

theorem last_cell {w : World} {g c n q : Nat} {xs : List Nat} (h : w.ownsRow 0 3 1 (.slice (some ⟨g, 0, none⟩) n c) n ((xs ++ [q]).map intV)) : n = xs.length + 1 ∧ w.cell? ⟨g, xs.length, none⟩ = some (.int .i64 (q : Int)) := by
  have hl := h.1
  simp at hl
  refine ⟨by omega, ?_⟩
  rw [h.cellAt xs.length (by omega)]
  simp [intV]
theorem IsW.shut {a : Nat} {S : WSt} {w : World} {gb cb g cap m q : Nat} {xs : List Nat} (h : IsW 69 w a S (.slice (some ⟨gb, 0, none⟩) S.bytes.length cb) (.slice (some ⟨g, 0, none⟩) m cap)) (ho : S.opens = xs ++ [q]) (hq : q + 2 ≤ S.bytes.length) (hl : S.bytes.length - q - 2 ≤ 65535) :
    WPost 69 w a (.slice (some ⟨gb, 0, none⟩) S.bytes.length cb) (.slice (some ⟨g, 0, none⟩) m cap) { S with bytes := (S.bytes.set q (UInt8.ofNat (S.bytes.length - q - 2))).set (q + 1) (UInt8.ofNat ((S.bytes.length - q - 2) / 256)), opens := xs }
      (((w.setCell ⟨gb, q, none⟩ (.int .u8 (((S.bytes.length : Int) - (q : Int) - 2) % 256))).setCell ⟨gb, q + 1, none⟩ (.int .u8 (((S.bytes.length : Int) - (q : Int) - 2) / 256))).setCell ⟨a, 2, none⟩ (.slice (some ⟨g, 0, none⟩) xs.length cap)) := by
  have hr := wrow h (by decide)
  have n1 : gb ≠ a := fun e => hr.1 (by rw [← e]; rfl)
  have n3 : g ≠ a := fun e => hr.2.1 (by rw [← e]; rfl)
  have n4 : gb ≠ g := fun e => hr.2.2 gb rfl (by rw [e]; rfl)
  have v1 : Value.int .u8 (((S.bytes.length : Int) - (q : Int) - 2) % 256) = byteV (UInt8.ofNat (S.bytes.length - q - 2)) := by
    rw [byteV_mod]
    congr 2
    omega
  have v2 : Value.int .u8 (((S.bytes.length : Int) - (q : Int) - 2) / 256) = byteV (UInt8.ofNat ((S.bytes.length - q - 2) / 256)) := by
    rw [byteV_mod]
    congr 1
    omega
  rw [v1, v2]
  have hb := h.b
  have b1 := (hb.stored q (byteV (UInt8.ofNat (S.bytes.length - q - 2)))).1
  have b2 := (b1.stored (q + 1) (byteV (UInt8.ofNat ((S.bytes.length - q - 2) / 256)))).1
  have b3 := ownsRow_set b2 (a := ⟨a, 2, none⟩) (by simp [Value.ownBlock, n1]) (.slice (some ⟨g, 0, none⟩) xs.length cap)
  have hoo := h.o
  rw [ho] at hoo
  have hm : m = xs.length + 1 := by
    rcases ownsRow_form h.o with ⟨h1, _⟩ | ⟨g', cap', h1, _⟩
    · simp at h1
    · simp only [Value.slice.injEq, Option.some.injEq, Addr.mk.injEq, and_true] at h1
      rw [h1.2.1, ho]
      simp
  have o0 : w.ownsRow 0 3 1 (.slice (some ⟨g, 0, none⟩) m cap) m ((xs ++ [q]).map intV) := by
    have : (xs ++ [q]).length = m := by simp; omega
    rwa [this] at hoo
  have o1 := ownsRow_cut o0 xs.length (by omega)
  have o2 := ownsRow_set o1 (a := ⟨gb, q, none⟩) (by simp [Value.ownBlock, Ne.symm n4]) (byteV (UInt8.ofNat (S.bytes.length - q - 2)))
  have o3 := ownsRow_set o2 (a := ⟨gb, q + 1, none⟩) (by simp [Value.ownBlock, Ne.symm n4]) (byteV (UInt8.ofNat ((S.bytes.length - q - 2) / 256)))
  have o4 := ownsRow_set o3 (a := ⟨a, 2, none⟩) (by simp [Value.ownBlock, n3]) (.slice (some ⟨g, 0, none⟩) xs.length cap)
  refine ⟨.slice (some ⟨gb, 0, none⟩) S.bytes.length cb, .slice (some ⟨g, 0, none⟩) xs.length cap, ⟨⟨h.wf.limit, by simpa using h.wf.bytes, fun x hx => ?_, ?_, h.wf.err⟩, ?_, ?_, ?_⟩, ?_, ?_⟩
  · have := h.wf.opens x (by rw [ho]; simp [hx])
    simpa using this
  · have := h.wf.many
    rw [ho] at this
    simp at this ⊢
    omega
  · rw [heap_setCell_same (t := 69) (cs := #[.int .i64 (S.limit : Int), .slice (some ⟨gb, 0, none⟩) S.bytes.length cb, .slice (some ⟨g, 0, none⟩) m cap, .int .i64 (S.err : Int)]) _ _ _ _ (by
      rw [heap_setCell_other _ _ _ _ (by simpa using Ne.symm n1), heap_setCell_other _ _ _ _ (by simpa using Ne.symm n1)]
      exact h.cells)]
    rfl
  · simpa [List.map_set] using b3
  · have e : ((xs ++ [q]).map intV).take xs.length = xs.map intV := by simp
    rw [e] at o4
    exact o4
  · exact (((Mods.refl _ _).setCell (p := ⟨gb, q, none⟩) (Or.inl (mem_foot.2 (Or.inr (Or.inl rfl)))) _).setCell (p := ⟨gb, q + 1, none⟩) (Or.inl (mem_foot.2 (Or.inr (Or.inl rfl)))) _).setCell (p := ⟨a, 2, none⟩) (Or.inl (mem_foot.2 (Or.inl rfl))) _
  · intro k hk
    rcases mem_foot.1 hk with rfl | hk | hk
    · exact Or.inl (mem_foot.2 (Or.inl rfl))
    · exact Or.inl (mem_foot.2 (Or.inr (Or.inl hk)))
    · exact Or.inl (mem_foot.2 (Or.inr (Or.inr hk)))
end Go.Proofs.YtmcekhgmmocajaaDoor
