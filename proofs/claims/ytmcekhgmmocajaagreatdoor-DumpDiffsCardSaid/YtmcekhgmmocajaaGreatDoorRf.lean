/- The reference's above. | The reference's find, of a list's first entries. -/
import Derived.Test.YtmcekhgmmocajaaGreatDoorRu
import Derived.Test.YtmcekhgmmocajaaGreatDoorOd
namespace Go.Proofs.YtmcekhgmmocajaaGreatDoor
open Go.RowKit Me

/-- The path of the directory that a path lies in. -/
def aboveB (p : List ByteArray) : ByteArray := joinP false p.dropLast
set_option maxRecDepth 100000 in
set_option maxHeartbeats 1000000 in
theorem above_any (s : ByteArray) (w : World) (hs : s.size ≤ 200000000) (hne : partsR s ≠ []) :
    Calls Tryz.prog 68 #[.string s] w fun x w' => x = .returned (.string (aboveB (partsR s))) ∧ Mods [] w w' := by
  have H1 := Lib.hid (rparts_any s w (by omega))
  have hsub : (partsR s).Sublist (pieces s) := by
    unfold partsR
    split
    · exact List.filter_sublist
    · exact List.nil_sublist _
  have hll : (partsR s).length ≤ 4294967290 := by
    have h1 := hsub.length_le
    have h2 := pieces_length s
    have h3 := Lib.countB_le ⟨#[47]⟩ (by decide) _ s (Nat.le_refl _)
    omega
  have hj : lenJ (partsR s).dropLast ≤ 100000000000 := by
    have h1 := lenJ_sub ((List.dropLast_sublist (partsR s)).trans hsub)
    rw [lenJ_pieces] at h1
    omega
  have HA := Lib.hid (show aboveB (partsR s) = joinP false (partsR s).dropLast from rfl)
  generalize partsR s = L at *
  obtain ⟨m, hm⟩ : ∃ m, L.length = m + 1 := ⟨L.length - 1, by have : L.length ≠ 0 := fun h => hne (List.eq_nil_of_length_eq_zero h); omega⟩
  have HDL : Hid (L.take m = L.dropLast) := Lib.hid (by rw [List.dropLast_eq_take, hm]; rfl)
  go_enter Tryz.func68, Tryz.ntmps68
  go_wp2_with fail
  refine H1.out.mono ?_; rintro x w1 ⟨v, rfl, hr, hm1⟩
  obtain ⟨A, c, rfl, -⟩ := id hr
  rw [List.length_map] at hr ⊢
  have hcap := rd_cap hr
  have hin := rd_init hr m (by omega)
  rw [HDL.out] at hin
  have HJ := Lib.hid (rjoin_any false L.dropLast (.slice A m c) w1 hin (by rw [List.length_dropLast]; omega) hj)
  have HM := Lib.hid hm1
  have hm9 : m + 1 ≤ 4294967290 := by omega
  rw [hm] at *
  clear hr hm1 hin hsub H1 hne hj
  generalize joinP false L.dropLast = res at *
  clear hm
  go_wp2_with fail
  refine HJ.out.mono ?_; rintro x w2 ⟨rfl, hm2⟩
  have HM2 := Lib.hid (HM.out.trans hm2 (by simp))
  clear hm2
  go_wp2_with fail
  go_ret
  exact ⟨by rw [HA.out]; rfl, HM2.out⟩
end Go.Proofs.YtmcekhgmmocajaaGreatDoor
namespace Go.Proofs.YtmcekhgmmocajaaGreatDoor
open Go.RowKit Me

/-- The place of the first entry of this path. -/
def findE (l : List EntP) (s : ByteArray) : Int :=
  match l.findIdx? (fun e => e.path.toList == s.toList) with
  | some i => (i : Int)
  | none => -1
theorem Ents.take {w : World} {A : Option Addr} {n c : Nat} {L : List EntP} (h : Ents w (.slice A n c) L) (k : Nat) (hk : k ≤ L.length) : Ents w (.slice A k c) (L.take k) := by
  obtain ⟨A', c', e, h1, h2, h3⟩ := h
  obtain ⟨rfl, rfl, rfl⟩ := Value.slice.inj e
  refine ⟨A, c, by rw [List.length_take, Nat.min_eq_left hk], by rw [List.length_take]; omega, h2, fun i e he => ?_⟩
  rw [List.getElem?_take] at he
  split at he
  · exact h3 i e he
  · cases he
def RelFi (w : World) (L : List EntP) (s : ByteArray) (i : Value) (wr : World) : Prop := ∃ k : Nat, k ≤ L.length ∧ i = .int .i64 k ∧ (L.take k).findIdx? (fun e => e.path.toList == s.toList) = none ∧ Mods [] w wr
set_option maxRecDepth 100000 in
set_option maxHeartbeats 1000000 in
theorem find_any {w : World} (L : List EntP) (s : ByteArray) {v : Value} (h : Ents w v L) (hL : L.length ≤ 100000000) :
    Calls Tryz.prog 67 #[v, .string s] w fun x w' => x = .returned (.int .i64 (findE L s)) ∧ Mods [] w w' := by
  have H := Lib.hid h
  obtain ⟨A, c, rfl, -⟩ := h
  have HF := Lib.hid (show findE L s = match L.findIdx? (fun e => e.path.toList == s.toList) with
    | some i => (i : Int)
    | none => -1 from rfl)
  generalize findE L s = r at *
  go_enter Tryz.func67, Tryz.ntmps67
  go_wp2_with fail
  go_loopw [5] (fun i wr => RelFi w L s i wr) (fun i _ => L.length - (intOf i).toNat)
  case atStart => exact ⟨0, by omega, rfl, by simp, Mods.refl _ _⟩
  case round =>
    obtain ⟨k, hk, rfl, hn, hm⟩ := hrel
    have HM := Lib.hid hm
    rcases Nat.lt_or_ge k L.length with hlt | hge
    · obtain ⟨e, hs⟩ : ∃ e, L[k]? = some e := ⟨_, List.getElem?_eq_getElem hlt⟩
      obtain ⟨g, off, vd, rfl, hrg, hrd⟩ := (H.out.mods hm).at hs
      have c0 := (range_ent hrg).1
      have hsplit : L = L.take k ++ e :: L.drop (k + 1) := by
        obtain ⟨h1, rfl⟩ := List.getElem?_eq_some_iff.1 hs
        rw [← List.drop_eq_getElem_cons h1, List.take_append_drop]
      cases hq : e.path.toList == s.toList
      · have HN : Hid ((L.take (k + 1)).findIdx? (fun e => e.path.toList == s.toList) = none) := Lib.hid (by
          rw [List.take_add_one, hs]
          rw [List.findIdx?_append, hn]
          simp [List.findIdx?_cons, hq])
        clear hrg hrd hs hm hn hsplit
        go_wp2_with fail
        exact ⟨⟨k + 1, by omega, rfl, HN.out, HM.out⟩, by simp only [intOf]; omega⟩
      · have HV : Hid (r = (k : Int)) := Lib.hid (by
          rw [HF.out]
          have : L.findIdx? (fun e => e.path.toList == s.toList) = some k := by
            rw [hsplit, List.findIdx?_append, hn]
            simp [List.findIdx?_cons, hq, Nat.min_eq_left hk]
          rw [this])
        clear hrg hrd hs hm hn hsplit
        go_wp2_with fail
        go_ret
        exact ⟨by rw [HV.out]; rfl, HM.out⟩
    · obtain rfl : k = L.length := by omega
      have HV : Hid (r = -1) := Lib.hid (by
        rw [List.take_length] at hn
        rw [HF.out, hn])
      clear hm hn
      go_wp2_with fail
      go_ret
      exact ⟨by rw [HV.out]; rfl, HM.out⟩
end Go.Proofs.YtmcekhgmmocajaaGreatDoor
