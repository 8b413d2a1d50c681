/- A map of counts that a call makes: what it holds, asked and written. -/
import Derived.Test.YtmcekhgmmocajaaGreatDoorEf
import Derived.Maps.Own
import Derived.Maps.OwnOps
import Derived.Maps.OwnSet
namespace Go.Proofs.YtmcekhgmmocajaaGreatDoor
open Go.RowKit Me

theorem law9 : Go.Maps.Keyed Tryz.prog 9 := Go.Maps.string_keyed Tryz.underlying9
theorem zero3 (w : World) : (zeroValue 3).run Tryz.prog w = .ok (.int .i64 0) w := by kernel_rfl
/-- Block b is a map that tells of each text its count. -/
def Cnt (w : World) (b n : Nat) (cnt : ByteArray → Int) : Prop :=
  ∃ D : DataW Unit, w.ownsMap Tryz.prog 9 (plainElem Tryz.prog 3) b n D ∧ ∀ s : ByteArray, s.size ≤ maxLen → D.atKey (.string s.data.toList) (.lit (.int .i64 0)) = .lit (.int .i64 (cnt s))
theorem Cnt.start (w : World) : Cnt (w.alloc (.map #[] 0)) w.heap.size 0 (fun _ => 0) :=
  ⟨_, World.ownsMap_made _ _ _ _, fun _ _ => rfl⟩
theorem Cnt.mods {w w' : World} {b n : Nat} {cnt : ByteArray → Int} {F : List Nat} (h : Cnt w b n cnt) (hm : Mods F w w') (hn : b ∉ F) : Cnt w' b n cnt := by
  obtain ⟨D, ⟨es, clock, hb, F', h1, h2⟩, h3⟩ := h
  exact ⟨D, ⟨es, clock, hm.heap hb hn, F', h1, h2⟩, h3⟩
theorem key9 (s : ByteArray) (hs : s.size ≤ maxLen) : keyOf Tryz.prog 9 (.string s) = some (.string s.data.toList) := Go.WideMaps.keyOf_string_mk Tryz.underlying9 hs
theorem Cnt.look {w : World} {b n : Nat} {cnt : ByteArray → Int} (h : Cnt w b n cnt) (s : ByteArray) (hs : s.size ≤ maxLen) :
    (Instr.lookup 83 (.map (some b)) (.string s) false).run Tryz.prog w = .ok (.int .i64 (cnt s)) w := by
  obtain ⟨D, h1, h2⟩ := h
  obtain ⟨c, hrun, hat, _⟩ := h1.lookup_int law9 Tryz.underlying83 Tryz.underlying3 (zero3 w) (key9 s hs)
  rw [h2 s hs] at hat
  simp only [DataW.lit.injEq, Lit.int.injEq, true_and] at hat
  rw [hat]
  exact hrun
theorem Cnt.update {w : World} {b n : Nat} {cnt : ByteArray → Int} (h : Cnt w b n cnt) (hn : n < maxLen) (s : ByteArray) (hs : s.size ≤ maxLen) (v : Int) (hv : (Lit.int .i64 v).wf = true) :
    ∃ w', (Instr.mapUpdate 83 (.map (some b)) (.string s) (.int .i64 v)).run Tryz.prog w = .ok () w' ∧ Cnt w' b (n + 1) (fun t => if t.data.toList = s.data.toList then v else cnt t) ∧ Mods [b] w w' := by
  obtain ⟨D, h1, h2⟩ := h
  obtain ⟨w', hrun, h3, h4⟩ := h1.update law9 Tryz.underlying83 hn (key9 s hs) (plainElem_int Tryz.underlying3 hv)
  refine ⟨w', hrun, ⟨_, h3, fun t ht => ?_⟩, (Mods.refl [b] w).grown h4 (fun x hx => Or.inl (by cases hx; simp))⟩
  show _ = DataW.lit (.int .i64 (if t.data.toList = s.data.toList then v else cnt t))
  by_cases e : t.data.toList = s.data.toList
  · rw [if_pos e, e]
    exact Go.Maps.atKey_put_same (k := .string s.data.toList) h1.isMap (show WideAt.IsKeyLit (.string s.data.toList) from trivial) _ _
  · rw [if_neg e, Go.Maps.atKey_put_other (by simpa using e)]
    exact h2 t ht
end Go.Proofs.YtmcekhgmmocajaaGreatDoor
