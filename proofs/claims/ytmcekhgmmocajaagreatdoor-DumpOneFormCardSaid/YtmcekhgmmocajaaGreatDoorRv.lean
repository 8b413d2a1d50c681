/- The reference's above. -/
import Derived.Test.YtmcekhgmmocajaaGreatDoorRu
import Derived.Test.YtmcekhgmmocajaaGreatDoorOd
namespace Go.Proofs.YtmcekhgmmocajaaGreatDoor
open Go.RowKit Me

/-- The path of the directory that a path lies in. -/
def aboveB (p : List ByteArray) : ByteArray := joinP false p.dropLast
set_option maxRecDepth 100000 in
set_option maxHeartbeats 1000000 in
theorem above_any (s : ByteArray) (w : World) (hs : s.size ≤ 200000000) (hne : partsR s ≠ []) :
    Calls Tryz.prog 68 #[.string s] w fun x w' => x = .returned (.string (aboveB (partsR s))) ∧ Mods [] w w' := by
  have H1 := Lib.hid (rparts_any s w (by omega))
  have hsub : (partsR s).Sublist (pieces s) := by
    unfold partsR
    split
    · exact List.filter_sublist
    · exact List.nil_sublist _
  have hll : (partsR s).length ≤ 4294967290 := by
    have h1 := hsub.length_le
    have h2 := pieces_length s
    have h3 := Lib.countB_le ⟨#[47]⟩ (by decide) _ s (Nat.le_refl _)
    omega
  have hj : lenJ (partsR s).dropLast ≤ 100000000000 := by
    have h1 := lenJ_sub ((List.dropLast_sublist (partsR s)).trans hsub)
    rw [lenJ_pieces] at h1
    omega
  have HA := Lib.hid (show aboveB (partsR s) = joinP false (partsR s).dropLast from rfl)
  generalize partsR s = L at *
  obtain ⟨m, hm⟩ : ∃ m, L.length = m + 1 := ⟨L.length - 1, by have : L.length ≠ 0 := fun h => hne (List.eq_nil_of_length_eq_zero h); omega⟩
  have HDL : Hid (L.take m = L.dropLast) := Lib.hid (by rw [List.dropLast_eq_take, hm]; rfl)
  go_enter Tryz.func68, Tryz.ntmps68
  go_wp2_with fail
  refine H1.out.mono ?_; rintro x w1 ⟨v, rfl, hr, hm1⟩
  obtain ⟨A, c, rfl, -⟩ := id hr
  rw [List.length_map] at hr ⊢
  have hcap := rd_cap hr
  have hin := rd_init hr m (by omega)
  rw [HDL.out] at hin
  have HJ := Lib.hid (rjoin_any false L.dropLast (.slice A m c) w1 hin (by rw [List.length_dropLast]; omega) hj)
  have HM := Lib.hid hm1
  have hm9 : m + 1 ≤ 4294967290 := by omega
  rw [hm] at *
  clear hr hm1 hin hsub H1 hne hj
  generalize joinP false L.dropLast = res at *
  clear hm
  go_wp2_with fail
  refine HJ.out.mono ?_; rintro x w2 ⟨rfl, hm2⟩
  have HM2 := Lib.hid (HM.out.trans hm2 (by simp))
  clear hm2
  go_wp2_with fail
  go_ret
  exact ⟨by rw [HA.out]; rfl, HM2.out⟩
end Go.Proofs.YtmcekhgmmocajaaGreatDoor
