/- The walk of WireNames. -/
import Derived.Test.YtedddekkbgaolaaDoorKn
namespace Go.Proofs.YtedddekkbgaolaaDoor
open Go.RowKit Me

theorem names_any (w : World) (hT : Lib.Utf8Tabs 0 1 w) :
    Calls Tryd.prog 5 #[] w fun e w' => e = .returned (.bool true) ∧ Mods [] w w' := by
  go_enter Tryd.func5, Tryd.ntmps5
  go_wp2_with fail
  refine (known_any w hT).mono ?_; rintro e w1 ⟨rfl, h⟩
  have H := Lib.hid h
  clear h
  go_wp2_with fail
  go_ret
  exact ⟨rfl, H.out⟩
end Go.Proofs.YtedddekkbgaolaaDoor
