/- dump.order. -/
import Derived.Test.YtmcekhgmmocajaaGreatDoorCm
namespace Go.Proofs.YtmcekhgmmocajaaGreatDoor
open Go.RowKit Me

set_option maxHeartbeats 1000000 in
set_option maxRecDepth 100000 in
theorem order_any {w : World} (a b : ByteArray) (ha : a.size < 4294967281) (hb : b.size < 4294967281) (hT : Tabs w) :
    Calls Tryz.prog 50 #[.string a, .string b] w fun x w' => x = .returned (.int .i64 (cmpL (partsP a) (partsP b))) ∧ Mods [] w w' := by
  have H1 := Lib.hid (parts_any a w ha hT)
  have H2 := Lib.hid (fun w' (hw : Mods [] w w') => parts_any b w' hb (hT.keep (hw.toBelow (by simp))))
  generalize partsP a = L at *
  generalize partsP b = M at *
  go_enter Tryz.func50, Tryz.ntmps50
  go_wp2_with fail
  refine H1.out.mono ?_; rintro x w1 ⟨v, rfl, hr, hm⟩
  have HR := Lib.hid hr
  have HM := Lib.hid hm
  clear hr hm
  obtain ⟨A, c, rfl, -⟩ := HR.out
  go_wp2_with fail
  refine (H2.out _ HM.out).mono ?_; rintro x w2 ⟨v, rfl, hr, hm⟩
  have HC := Lib.hid (scompare_any L M (HR.out.mods hm (by simp)) hr)
  have HM2 := Lib.hid (HM.out.trans hm (by simp))
  obtain ⟨B, d, rfl, -⟩ := hr
  simp only [List.length_map] at HC
  clear hm
  go_wp2_with fail
  refine HC.out.mono ?_; rintro x w3 ⟨rfl, rfl⟩
  go_wp2_with fail
  go_ret
  exact ⟨rfl, HM2.out⟩
end Go.Proofs.YtmcekhgmmocajaaGreatDoor
