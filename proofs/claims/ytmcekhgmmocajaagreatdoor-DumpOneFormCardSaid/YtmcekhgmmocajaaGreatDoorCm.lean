/- cmp.Compare and slices.Compare of strings; dump.order. -/
import Derived.Test.YtmcekhgmmocajaaGreatDoorEf
namespace Go.Proofs.YtmcekhgmmocajaaGreatDoor
open Go.RowKit Me

def lessB (a b : ByteArray) : Bool := Op.bytesLess a.toList b.toList
def cmpB (a b : ByteArray) : Int := if lessB a b then -1 else if a.toList == b.toList then 0 else 1
def cmpL : List ByteArray → List ByteArray → Int
  | [], [] => 0
  | [], _ :: _ => -1
  | _ :: _, [] => 1
  | a :: l, b :: m => if cmpB a b = 0 then cmpL l m else cmpB a b
theorem isnan_any (s : ByteArray) (w : World) : Calls Tryz.prog 135 #[.string s] w fun x w' => x = .returned (.bool false) ∧ w' = w := by
  go_enter Tryz.func135, Tryz.ntmps135
  go_wp2_with fail
  go_ret
  exact ⟨rfl, rfl⟩
theorem compare_any (a b : ByteArray) (w : World) : Calls Tryz.prog 114 #[.string a, .string b] w fun x w' => x = .returned (.int .i64 (cmpB a b)) ∧ w' = w := by
  have H := Lib.hid (fun s w => isnan_any s w)
  have HC := Lib.hid (show cmpB a b = if Op.bytesLess a.toList b.toList then -1 else if a.toList == b.toList then 0 else 1 from rfl)
  generalize cmpB a b = q at *
  go_enter Tryz.func114, Tryz.ntmps114
  go_wp2_with fail
  refine (H.out _ _).mono ?_; rintro x w1 ⟨rfl, rfl⟩
  go_wp2_with fail
  refine (H.out _ _).mono ?_; rintro x w1 ⟨rfl, rfl⟩
  go_wp2_with fail
  all_goals go_ret
  all_goals (have hq := HC.out; clear HC H)
  all_goals (refine ⟨?_, rfl⟩; rw [hq])
  all_goals simp_all
theorem cmpL_step (L M : List ByteArray) (k : Nat) (p q : ByteArray) (hp : L[k]? = some p) (hq : M[k]? = some q) : cmpL (L.drop k) (M.drop k) = if cmpB p q = 0 then cmpL (L.drop (k + 1)) (M.drop (k + 1)) else cmpB p q := by
  obtain ⟨h1, rfl⟩ := List.getElem?_eq_some_iff.1 hp
  obtain ⟨h2, rfl⟩ := List.getElem?_eq_some_iff.1 hq
  rw [List.drop_eq_getElem_cons h1, List.drop_eq_getElem_cons h2]
  rfl
theorem cmpL_short (L M : List ByteArray) (k : Nat) (h1 : k < L.length) (h2 : M.length ≤ k) : cmpL (L.drop k) (M.drop k) = 1 := by
  rw [List.drop_eq_getElem_cons h1, List.drop_eq_nil_of_le h2]
  rfl
theorem cmpL_less (M : List ByteArray) (L : List ByteArray) (k : Nat) (h1 : L.length ≤ k) (h2 : k < M.length) : cmpL (L.drop k) (M.drop k) = -1 := by
  rw [List.drop_eq_getElem_cons h2, List.drop_eq_nil_of_le h1]
  rfl
theorem cmpL_same (M : List ByteArray) (L : List ByteArray) (k : Nat) (h1 : L.length ≤ k) (h2 : M.length ≤ k) : cmpL (L.drop k) (M.drop k) = 0 := by
  rw [List.drop_eq_nil_of_le h2, List.drop_eq_nil_of_le h1]
  rfl
def RelCm (w : World) (L M : List ByteArray) (i : Value) (wr : World) : Prop := ∃ k : Nat, k ≤ L.length ∧ k ≤ M.length ∧ i = .int .i64 k ∧ cmpL L M = cmpL (L.drop k) (M.drop k) ∧ w = wr
set_option maxRecDepth 100000 in
set_option maxHeartbeats 1000000 in
theorem scompare_any {w : World} (L M : List ByteArray) {v u : Value} (h : Rd w v (L.map Value.string)) (h' : Rd w u (M.map Value.string)) :
    Calls Tryz.prog 91 #[v, u] w fun x w' => x = .returned (.int .i64 (cmpL L M)) ∧ w' = w := by
  obtain ⟨A, c, rfl, a1, a2, a3⟩ := h
  obtain ⟨B, d, rfl, b1, b2, b3⟩ := h'
  simp only [List.length_map] at *
  have H := Lib.hid (fun a b w => compare_any a b w)
  have H3 := Lib.hid a3
  have K3 := Lib.hid b3
  have hLm : L.length ≤ 9223372036854775807 := by unfold maxLen at a2; omega
  clear a1 a2 a3 b1 b2 b3
  go_enter Tryz.func91, Tryz.ntmps91
  go_wp2_with fail
  go_loopw [11] (fun i wr => RelCm w L M i wr) (fun i _ => L.length - (intOf i).toNat)
  case atStart => exact ⟨0, by omega, by omega, rfl, rfl, rfl⟩
  case round =>
    obtain ⟨k, hk, hk2, rfl, he, rfl⟩ := hrel
    have HE := Lib.hid he
    clear he
    rcases Nat.lt_or_ge k L.length with hlt | hge
    · obtain ⟨p, hp⟩ : ∃ p, L[k]? = some p := ⟨_, List.getElem?_eq_getElem hlt⟩
      obtain ⟨g, off, rfl, c1⟩ := H3.out k (.string p) (by rw [List.getElem?_map, hp]; rfl)
      rcases Nat.lt_or_ge k M.length with hlt2 | hge2
      · obtain ⟨q, hq⟩ : ∃ q, M[k]? = some q := ⟨_, List.getElem?_eq_getElem hlt2⟩
        obtain ⟨g2, off2, rfl, c2⟩ := K3.out k (.string q) (by rw [List.getElem?_map, hq]; rfl)
        have HS := Lib.hid (HE.out.trans (cmpL_step L M k p q hp hq))
        clear hp hq
        go_wp2_with fail
        refine (H.out _ _ _).mono ?_; rintro x w1 ⟨rfl, rfl⟩
        by_cases h0 : cmpB p q = 0
        · rw [if_pos h0] at HS
          rw [h0]
          go_wp2_with fail
          exact ⟨⟨k + 1, by omega, by omega, rfl, HS.out, rfl⟩, by simp only [intOf]; omega⟩
        · rw [if_neg h0] at HS
          have hne : (cmpB p q != 0) = true := bne_iff_ne.2 h0
          generalize cmpB p q = z at *
          go_wp2_with fail
          go_ret
          exact ⟨by rw [HS.out]; rfl, rfl⟩
      · have HS := Lib.hid (HE.out.trans (cmpL_short L M k hlt hge2))
        go_wp2_with fail
        go_ret
        exact ⟨by rw [HS.out]; rfl, rfl⟩
    · obtain rfl : k = L.length := by omega
      by_cases hl : L.length < M.length
      · have HS := Lib.hid (HE.out.trans (cmpL_less M L _ (Nat.le_refl _) hl))
        go_wp2_with fail
        go_ret
        exact ⟨by rw [HS.out]; rfl, rfl⟩
      · have HS := Lib.hid (HE.out.trans (cmpL_same M L _ (Nat.le_refl _) (by omega)))
        go_wp2_with fail
        go_ret
        exact ⟨by rw [HS.out]; rfl, rfl⟩
end Go.Proofs.YtmcekhgmmocajaaGreatDoor
