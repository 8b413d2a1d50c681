/- The reference's find, of a list's first entries. -/
import Derived.Test.YtmcekhgmmocajaaGreatDoorRv
namespace Go.Proofs.YtmcekhgmmocajaaGreatDoor
open Go.RowKit Me

/-- The place of the first entry of this path. -/
def findE (l : List EntP) (s : ByteArray) : Int :=
  match l.findIdx? (fun e => e.path.toList == s.toList) with
  | some i => (i : Int)
  | none => -1
theorem Ents.take {w : World} {A : Option Addr} {n c : Nat} {L : List EntP} (h : Ents w (.slice A n c) L) (k : Nat) (hk : k ≤ L.length) : Ents w (.slice A k c) (L.take k) := by
  obtain ⟨A', c', e, h1, h2, h3⟩ := h
  obtain ⟨rfl, rfl, rfl⟩ := Value.slice.inj e
  refine ⟨A, c, by rw [List.length_take, Nat.min_eq_left hk], by rw [List.length_take]; omega, h2, fun i e he => ?_⟩
  rw [List.getElem?_take] at he
  split at he
  · exact h3 i e he
  · cases he
def RelFi (w : World) (L : List EntP) (s : ByteArray) (i : Value) (wr : World) : Prop := ∃ k : Nat, k ≤ L.length ∧ i = .int .i64 k ∧ (L.take k).findIdx? (fun e => e.path.toList == s.toList) = none ∧ Mods [] w wr
set_option maxRecDepth 100000 in
set_option maxHeartbeats 1000000 in
theorem find_any {w : World} (L : List EntP) (s : ByteArray) {v : Value} (h : Ents w v L) (hL : L.length ≤ 100000000) :
    Calls Tryz.prog 67 #[v, .string s] w fun x w' => x = .returned (.int .i64 (findE L s)) ∧ Mods [] w w' := by
  have H := Lib.hid h
  obtain ⟨A, c, rfl, -⟩ := h
  have HF := Lib.hid (show findE L s = match L.findIdx? (fun e => e.path.toList == s.toList) with
    | some i => (i : Int)
    | none => -1 from rfl)
  generalize findE L s = r at *
  go_enter Tryz.func67, Tryz.ntmps67
  go_wp2_with fail
  go_loopw [5] (fun i wr => RelFi w L s i wr) (fun i _ => L.length - (intOf i).toNat)
  case atStart => exact ⟨0, by omega, rfl, by simp, Mods.refl _ _⟩
  case round =>
    obtain ⟨k, hk, rfl, hn, hm⟩ := hrel
    have HM := Lib.hid hm
    rcases Nat.lt_or_ge k L.length with hlt | hge
    · obtain ⟨e, hs⟩ : ∃ e, L[k]? = some e := ⟨_, List.getElem?_eq_getElem hlt⟩
      obtain ⟨g, off, vd, rfl, hrg, hrd⟩ := (H.out.mods hm).at hs
      have c0 := (range_ent hrg).1
      have hsplit : L = L.take k ++ e :: L.drop (k + 1) := by
        obtain ⟨h1, rfl⟩ := List.getElem?_eq_some_iff.1 hs
        rw [← List.drop_eq_getElem_cons h1, List.take_append_drop]
      cases hq : e.path.toList == s.toList
      · have HN : Hid ((L.take (k + 1)).findIdx? (fun e => e.path.toList == s.toList) = none) := Lib.hid (by
          rw [List.take_add_one, hs]
          rw [List.findIdx?_append, hn]
          simp [List.findIdx?_cons, hq])
        clear hrg hrd hs hm hn hsplit
        go_wp2_with fail
        exact ⟨⟨k + 1, by omega, rfl, HN.out, HM.out⟩, by simp only [intOf]; omega⟩
      · have HV : Hid (r = (k : Int)) := Lib.hid (by
          rw [HF.out]
          have : L.findIdx? (fun e => e.path.toList == s.toList) = some k := by
            rw [hsplit, List.findIdx?_append, hn]
            simp [List.findIdx?_cons, hq, Nat.min_eq_left hk]
          rw [this])
        clear hrg hrd hs hm hn hsplit
        go_wp2_with fail
        go_ret
        exact ⟨by rw [HV.out]; rfl, HM.out⟩
    · obtain rfl : k = L.length := by omega
      have HV : Hid (r = -1) := Lib.hid (by
        rw [List.take_length] at hn
        rw [HF.out, hn])
      clear hm hn
      go_wp2_with fail
      go_ret
      exact ⟨by rw [HV.out]; rfl, HM.out⟩
end Go.Proofs.YtmcekhgmmocajaaGreatDoor
