/- names.Check: may a file be called so? -/
import Derived.Test.YtmcekhgmmocajaaGreatDoorGood
import Derived.Test.YtmcekhgmmocajaaGreatDoorShelf
namespace Go.Proofs.YtmcekhgmmocajaaGreatDoor
open Go.RowKit

/-- What the library's packages read: the two tables, and a cell that holds an int. -/
structure Tabs (w : World) : Prop where
  u : Lib.Utf8Tabs 1 2 w
  m : ∃ m : Int, w.cell? ⟨0, 0, none⟩ = some (.int .i64 m)
theorem Tabs.below {B : Nat} {w w' : World} (hT : Tabs w) (h : Below B w w') (hB : 3 ≤ B) : Tabs w' :=
  ⟨tabs_below h hB hT.u, by obtain ⟨m, hm⟩ := hT.m; exact ⟨m, (h.cell (p := ⟨0, 0, none⟩) (by show 0 < B; omega)).trans hm⟩⟩
theorem Tabs.three {w : World} (hT : Tabs w) : 3 ≤ w.heap.size := tabs_two hT.u
theorem Tabs.keep {w w' : World} (hT : Tabs w) (h : Below w.heap.size w w') : Tabs w' := hT.below h hT.three

/-- May a file be called so? -/
def nameOk (s : ByteArray) : Bool := !s.toList.isEmpty && !(s.toList == [46]) && !(s.toList == [46, 46]) && decide (s.size ≤ 255) && !decide (0 ≤ Lib.indexByte s.data.toList 47) && Tx.good s.data.toList

theorem check_any (s : ByteArray) (w : World) (hs : s.size < 4294967281) (hT : Tabs w) :
    Calls Tryz.prog 110 #[.string s] w fun e w' => e = .returned (.int .i64 (if nameOk s then 0 else 50)) ∧ Below w.heap.size w w' := by
  have H1 := Lib.hid (Tryz.strings_Contains_one s 47 w)
  have H2 := Lib.hid (good_any s w (by show s.size ≤ 9223372036854775807; omega) hT.u)
  have HQ := Lib.hid (show nameOk s = (!s.toList.isEmpty && !(s.toList == [46]) && !(s.toList == [46, 46]) && decide (s.size ≤ 255) && !decide (0 ≤ Lib.indexByte s.data.toList 47) && Tx.good s.data.toList) from rfl)
  generalize nameOk s = v at *
  generalize decide (0 ≤ Lib.indexByte s.data.toList 47) = c at *
  generalize Tx.good s.data.toList = g at *
  clear hs hT
  go_enter Tryz.func110, Tryz.ntmps110
  go_wp2_with (first | (refine H1.out.mono ?_; rintro e w1 ⟨rfl, rfl⟩) | (refine H2.out.mono ?_; rintro e w1 ⟨rfl, hb1⟩))
  all_goals (have hq := HQ.out; clear HQ H1 H2)
  all_goals go_ret
  all_goals (refine ⟨?_, ?_⟩ <;> first | assumption | exact Below.refl _ _ | skip)
  all_goals (try (simp_all; done))
  all_goals (try (simp_all; omega))
end Go.Proofs.YtmcekhgmmocajaaGreatDoor
