/- The reference's ahead, above, find. -/
import Derived.Test.YtmcekhgmmocajaaGreatDoorRq
import Derived.Test.YtmcekhgmmocajaaGreatDoorCm
namespace Go.Proofs.YtmcekhgmmocajaaGreatDoor
open Go.RowKit Me

theorem cmpB_ne {p q : ByteArray} (h : (p.toList == q.toList) = false) : cmpB p q ≠ 0 ∧ decide (cmpB p q < 0) = Op.bytesLess p.toList q.toList := by
  unfold cmpB lessB
  cases hb : Op.bytesLess p.toList q.toList
  · rw [h]; simp
  · simp
theorem bytesLess_irrefl : ∀ l : List UInt8, Op.bytesLess l l = false
  | [] => rfl
  | a :: l => by
    unfold Op.bytesLess
    simp [bytesLess_irrefl l]
theorem cmpB_eq {p q : ByteArray} (h : (p.toList == q.toList) = true) : cmpB p q = 0 := by
  have e := eq_of_beq h
  unfold cmpB lessB
  rw [e, bytesLess_irrefl]
  simp
def RelAh (w : World) (L M : List ByteArray) (z : Int) (i : Value) (wr : World) : Prop := ∃ k : Nat, k ≤ L.length ∧ k ≤ M.length ∧ i = .int .i64 k ∧ z = cmpL (L.drop k) (M.drop k) ∧ Mods [] w wr
set_option maxRecDepth 100000 in
set_option maxHeartbeats 2000000 in
theorem ahead_any (a b : ByteArray) (w : World) (ha : a.size ≤ 4294967280) (hb : b.size ≤ 4294967280) :
    Calls Tryz.prog 66 #[.string a, .string b] w fun x w' => x = .returned (.bool (decide (cmpL (partsR a) (partsR b) < 0))) ∧ Mods [] w w' := by
  have H1 := Lib.hid (rparts_any a w ha)
  have H2 := Lib.hid (fun w' => rparts_any b w' hb)
  generalize partsR a = L at *
  generalize partsR b = M at *
  go_enter Tryz.func66, Tryz.ntmps66
  go_wp2_with fail
  refine H1.out.mono ?_; rintro x w1 ⟨v, rfl, hr, hm⟩
  have HR := Lib.hid hr
  have HM := Lib.hid hm
  clear hr hm
  obtain ⟨A, c, rfl, -⟩ := HR.out
  go_wp2_with fail
  refine (H2.out _).mono ?_; rintro x w2 ⟨v, rfl, hr, hm⟩
  have HL := Lib.hid (fun w' (hw : Mods [] w2 w') => HR.out.mods (hm.trans hw (by simp)) (by simp))
  have HK := Lib.hid (fun w' (hw : Mods [] w2 w') => hr.mods hw (by simp))
  have HM2 := Lib.hid (HM.out.trans hm (by simp))
  obtain ⟨B, d, rfl, b1, b2, -⟩ := hr
  have hLm : M.length ≤ 9223372036854775807 := by rw [List.length_map] at b1; unfold maxLen at b2; omega
  simp only [List.length_map] at *
  clear hm HR HM b1 b2
  obtain ⟨z, hz⟩ : ∃ z, cmpL L M = z := ⟨_, rfl⟩
  have HZ := Lib.hid hz
  clear hz
  go_wp2_with fail
  go_loopw [7] (fun i wr => RelAh w2 L M z i wr) (fun i _ => M.length - (intOf i).toNat)
  case atStart => exact ⟨0, by omega, by omega, rfl, by rw [← HZ.out]; rfl, Mods.refl _ _⟩
  case round =>
    obtain ⟨k, hk, hk2, rfl, he, hm⟩ := hrel
    have HE := Lib.hid he
    have HMW := Lib.hid (HM2.out.trans hm (by simp))
    have HMK := Lib.hid hm
    clear he
    by_cases hgo : k < L.length ∧ k < M.length
    · obtain ⟨hlt, hlt2⟩ := hgo
      obtain ⟨p, hp⟩ : ∃ p, L[k]? = some p := ⟨_, List.getElem?_eq_getElem hlt⟩
      obtain ⟨q, hq⟩ : ∃ q, M[k]? = some q := ⟨_, List.getElem?_eq_getElem hlt2⟩
      obtain ⟨A', c', e1, -, -, h3⟩ := HL.out wr hm
      obtain ⟨rfl, -, -⟩ := Value.slice.inj e1
      obtain ⟨g, off, rfl, c1⟩ := h3 k (.string p) (by rw [List.getElem?_map, hp]; rfl)
      obtain ⟨B', d', e2, -, -, k3⟩ := HK.out wr hm
      obtain ⟨rfl, -, -⟩ := Value.slice.inj e2
      obtain ⟨g2, off2, rfl, c2⟩ := k3 k (.string q) (by rw [List.getElem?_map, hq]; rfl)
      have HS := Lib.hid (HE.out.trans (cmpL_step L M k p q hp hq))
      clear e1 e2 h3 k3 hp hq hm
      cases hpq : p.toList == q.toList
      · obtain ⟨n1, n2⟩ := cmpB_ne hpq
        rw [if_neg n1] at HS
        have HV : Hid (decide (z < 0) = Op.bytesLess p.toList q.toList) := Lib.hid (by rw [HS.out]; exact n2)
        clear n1 n2
        go_wp2_with fail
        go_quiet (fail)
        go_wp2_with fail
        go_quiet (fail)
        go_wp2_with fail
        go_ret
        exact ⟨by rw [HZ.out, HV.out]; rfl, (HMW.out.drewN _).drewN _⟩
      · rw [if_pos (cmpB_eq hpq)] at HS
        go_wp2_with fail
        go_quiet (fail)
        go_wp2_with fail
        exact ⟨⟨k + 1, by omega, by omega, rfl, HS.out, HMK.out.drewN _⟩, by simp only [intOf]; omega⟩
    · by_cases hkl : k = L.length
      · subst hkl
        by_cases hl : L.length < M.length
        · have HV : Hid (decide (z < 0) = true) := Lib.hid (by rw [HE.out, cmpL_less M L _ (Nat.le_refl _) hl]; rfl)
          clear hm
          go_wp2_with fail
          go_ret
          exact ⟨by rw [HZ.out, HV.out]; rfl, HMW.out⟩
        · have HV : Hid (decide (z < 0) = false) := Lib.hid (by rw [HE.out, cmpL_same M L _ (Nat.le_refl _) (by omega)]; rfl)
          clear hm
          go_wp2_with fail
          go_ret
          exact ⟨by rw [HZ.out, HV.out]; rfl, HMW.out⟩
      · have hkm : k = M.length := by omega
        subst hkm
        have hlt : M.length < L.length := by omega
        have HV : Hid (decide (z < 0) = false) := Lib.hid (by rw [HE.out, cmpL_short L M _ hlt (Nat.le_refl _)]; rfl)
        clear hm
        go_wp2_with fail
        go_ret
        exact ⟨by rw [HZ.out, HV.out]; show Ending.returned (.bool (decide (L.length < M.length))) = _; rw [decide_eq_false (by omega)], HMW.out⟩
end Go.Proofs.YtmcekhgmmocajaaGreatDoor
