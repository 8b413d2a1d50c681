/- The walk of WireGood. -/
import Derived.Test.YtedddekkbgaolaaDoorCg
namespace Go.Proofs.YtedddekkbgaolaaDoor
open Go.RowKit Me

theorem wgood_any (s : ByteArray) (m : Int) (w : World) (hs : s.size ≤ maxLen) (h1 : -9223372036854775808 ≤ m) (h2 : m ≤ 9223372036854775807) (hT : Lib.Utf8Tabs 0 1 w) :
    Calls Tryd.prog 7 #[.string s, .int .i64 m] w fun e w' => e = .returned (.bool true) ∧ Mods [] w w' := by
  have hm := hs
  unfold maxLen at hm
  by_cases h : 33554432 < s.size
  · have h' : (33554432 : Int) < (s.size : Int) := by omega
    go_enter Tryd.func7, Tryd.ntmps7
    go_wp2_with fail
    go_ret
    exact ⟨rfl, Mods.refl _ _⟩
  · have h' : ¬ (33554432 : Int) < (s.size : Int) := by omega
    go_enter Tryd.func7, Tryd.ntmps7
    go_wp2_with fail
    refine (known_any w hT).mono ?_; rintro e w1 ⟨rfl, h⟩
    have M1 := Lib.hid h
    clear h
    go_wp2_with fail
    refine (good_any s w1 hs (tabs_mods M1.out hT)).mono ?_; rintro e w2 ⟨rfl, hb⟩
    have M2 := Lib.hid (M1.out.trans (Mods.below hb []) (fun _ h => Or.inl h))
    clear hb
    go_wp2_with fail
    refine (cut_any s m w2 hs h1 h2).mono ?_; rintro e w3 ⟨rfl, hb⟩
    have M3 := Lib.hid (M2.out.trans (Mods.below hb []) (fun _ h => Or.inl h))
    clear hb
    go_wp2_with fail
    refine (rgood_any s w3 (by omega)).mono ?_; rintro e w4 ⟨rfl, rfl⟩
    have e1 : (Tx.good s.data.toList == Tx.good s.data.toList) = true := beq_self_eq_true _
    generalize Tx.good s.data.toList = g at *
    go_wp2_with fail
    refine (rcut_any s m w3 (by omega) h1 h2).mono ?_; rintro e w4 ⟨rfl, rfl⟩
    go_wp2_with fail
    go_ret
    exact ⟨rfl, M3.out⟩
end Go.Proofs.YtedddekkbgaolaaDoor
