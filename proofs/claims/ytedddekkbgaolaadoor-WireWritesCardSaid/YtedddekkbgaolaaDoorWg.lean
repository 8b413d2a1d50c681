/- A reader as a piece of memory; the walk of wrong: what is asked of a reader that has gone wrong changes nothing. (Printed by wip/bin/genwg.py.) -/
import Derived.Test.YtedddekkbgaolaaDoorPc
import Derived.Test.YtedddekkbgaolaaDoorSc
namespace Go.Proofs.YtedddekkbgaolaaDoor
open Go.RowKit Me

def RdP (a : Nat) (S : RSt) (vb : Value) : Pc where
  A := fun w F => IsR 130 w a S vb ∧ (∀ k, vb.ownBlock = some k → k < w.heap.size) ∧ F = a :: vb.ownBlock.toList
  mods := by
    rintro w w' F G ⟨h1, h2, rfl⟩ hm hn
    exact ⟨h1.mods hm (hn a (by simp)) (fun k hk => hn k (by simp [hk])), fun k hk => Nat.lt_of_lt_of_le (h2 k hk) hm.size, rfl⟩
  lt := by
    rintro w F ⟨h1, h2, rfl⟩ k hk
    rcases List.mem_cons.1 hk with rfl | hk
    · exact (Array.getElem?_eq_some_iff.1 h1.cells).1
    · exact h2 k (by simpa using hk)
theorem RdP.turn {w w' : World} {a : Nat} {S S' : RSt} {vb : Value} {F : List Nat} (h : (RdP a S vb).A w F) (hp : RPost 130 w a vb S' w') : Post (RdP a S' vb) w F w' := by
  obtain ⟨h1, h2, rfl⟩ := h
  exact ⟨_, ⟨hp.1, fun k hk => Nat.lt_of_lt_of_le (h2 k hk) hp.2.size, rfl⟩, hp.2.mono (by simp), fun _ hk => Or.inl hk⟩
section
variable {S : RSt} (he : S.err ≠ 0)
include he
theorem get_errs (k : Nat) : (S.get k).2 = S := by unfold RSt.get; rw [if_pos he]
theorem raw_errs (n : Int) : (S.raw n).2 = S := by unfold RSt.raw; rw [if_pos he]
theorem counted_errs : S.counted = (none, S) := by unfold RSt.counted; rw [if_pos he]
theorem text_errs : S.text.2 = S := by unfold RSt.text; rw [counted_errs he]
theorem part_errs : S.part.2 = S := by unfold RSt.part; rw [counted_errs he]
theorem wrong_errs (e : Int) (n : Nat) : S.wrong e n = S := by unfold RSt.wrong; rw [if_neg (by simp [he])]
theorem fin_errs : S.fin = S := by
  unfold RSt.fin
  split
  · exact wrong_errs he _ _
  · rfl
end
set_option maxRecDepth 100000 in
set_option maxHeartbeats 1000000 in
theorem wrong_err {w : World} {a : Nat} {S : RSt} {vb : Value} {F : List Nat} (h : (RdP a S vb).A w F) (he : S.err ≠ 0) (o : OpP) (hok : -9223372036854775808 ≤ o.k ∧ o.k ≤ 9223372036854775807) (hT : ∀ w', Mods F w w' → Lib.Utf8Tabs 0 1 w') {A : Option Addr} {nb cb : Nat} :
    Calls Tryd.prog 49 #[.pointer (some ⟨a, 0, none⟩), opV o (.slice A nb cb)] w fun e w' => e = .returned (.tuple #[]) ∧ Post (RdP a S vb) w F w' := by
  have HE := Lib.hid he
  have HX := Lib.hid (fun (x : Obj) => (RdP a S vb).mods h ((Mods.refl [] w).alloc x) (by simp))
  have HP := Lib.hid (fun (x : Obj) (w' : World) (S' : RSt) (hs : S' = S) (hp : RPost 130 (w.alloc x) a vb S' w') => show Post (RdP a S vb) w F w' from hs ▸ (by
    have h2 := RdP.turn ((RdP a S vb).mods h ((Mods.refl [] w).alloc x) (by simp)) hp
    obtain ⟨F1, g1, g2, g3⟩ := h2
    exact ⟨F1, g1, ((Mods.refl [] w).alloc x).mono (G := F) (by simp) |>.trans g2 (fun b hb => Or.inl hb), fun k hk => by
      rcases g3 k hk with h | h
      · exact Or.inl h
      · exact Or.inr (by simp at h; omega)⟩))
  have HS := Lib.hid (fun (x : Obj) => (Post.start h).still ((Mods.refl [] w).alloc x))
  have HT := Lib.hid (fun (x : Obj) => hT _ (((Mods.refl [] w).alloc x).mono (by simp)))
  obtain ⟨who, kind, n, k, b, s⟩ := o
  simp only [opV] at *
  clear h he hT
  by_cases h1 : kind = 1
  · subst h1
    go_enter Tryd.func49, Tryd.ntmps49
    go_wp2_with fail
    refine (ru8_any (HX.out _).1).mono ?_; rintro e w1 ⟨rfl, hp⟩
    have HQ := Lib.hid (HP.out _ _ _ (get_errs HE.out 1) hp)
    clear hp
    go_wp2_with fail
    go_end0
    exact ⟨rfl, HQ.out⟩
  have e1 : (kind == 1) = false := by simpa using h1
  by_cases h2 : kind = 2
  · subst h2
    go_enter Tryd.func49, Tryd.ntmps49
    go_wp2_with fail
    refine (ru16_any (HX.out _).1).mono ?_; rintro e w1 ⟨rfl, hp⟩
    have HQ := Lib.hid (HP.out _ _ _ (get_errs HE.out 2) hp)
    clear hp
    go_wp2_with fail
    go_end0
    exact ⟨rfl, HQ.out⟩
  have e2 : (kind == 2) = false := by simpa using h2
  by_cases h3 : kind = 3
  · subst h3
    go_enter Tryd.func49, Tryd.ntmps49
    go_wp2_with fail
    refine (ru32_any (HX.out _).1).mono ?_; rintro e w1 ⟨rfl, hp⟩
    have HQ := Lib.hid (HP.out _ _ _ (get_errs HE.out 4) hp)
    clear hp
    go_wp2_with fail
    go_end0
    exact ⟨rfl, HQ.out⟩
  have e3 : (kind == 3) = false := by simpa using h3
  by_cases h4 : kind = 4
  · subst h4
    go_enter Tryd.func49, Tryd.ntmps49
    go_wp2_with fail
    refine (ru64_any (HX.out _).1).mono ?_; rintro e w1 ⟨rfl, hp⟩
    have HQ := Lib.hid (HP.out _ _ _ (get_errs HE.out 8) hp)
    clear hp
    go_wp2_with fail
    go_end0
    exact ⟨rfl, HQ.out⟩
  have e4 : (kind == 4) = false := by simpa using h4
  by_cases h5 : kind = 5
  · subst h5
    go_enter Tryd.func49, Tryd.ntmps49
    go_wp2_with fail
    refine (rraw_any (HX.out _).1 k (by omega) (by omega)).mono ?_; rintro e w1 ⟨v, rfl, -, hp⟩
    have HQ := Lib.hid (HP.out _ _ _ (raw_errs HE.out k) hp)
    clear hp
    go_wp2_with fail
    go_end0
    exact ⟨rfl, HQ.out⟩
  have e5 : (kind == 5) = false := by simpa using h5
  by_cases h6 : kind = 6
  · subst h6
    go_enter Tryd.func49, Tryd.ntmps49
    go_wp2_with fail
    refine (rtext_any (HX.out _).1 (HT.out _)).mono ?_; rintro e w1 ⟨rfl, hp⟩
    have HQ := Lib.hid (HP.out _ _ _ (text_errs HE.out) hp)
    clear hp
    go_wp2_with fail
    go_end0
    exact ⟨rfl, HQ.out⟩
  have e6 : (kind == 6) = false := by simpa using h6
  by_cases h7 : kind = 7
  · subst h7
    go_enter Tryd.func49, Tryd.ntmps49
    go_wp2_with fail
    refine (rpart_any (HX.out _).1).mono ?_; rintro e w1 ⟨p, vp, rfl, -, -, -, hp⟩
    have HQ := Lib.hid (HP.out _ _ _ (part_errs HE.out) hp)
    clear hp
    go_wp2_with fail
    go_end0
    exact ⟨rfl, HQ.out⟩
  have e7 : (kind == 7) = false := by simpa using h7
  by_cases h8 : kind = 8
  · subst h8
    go_enter Tryd.func49, Tryd.ntmps49
    go_wp2_with fail
    refine (end_any (HX.out _).1).mono ?_; rintro e w1 ⟨rfl, hp⟩
    have HQ := Lib.hid (HP.out _ _ _ (fin_errs HE.out) hp)
    clear hp
    go_wp2_with fail
    go_end0
    exact ⟨rfl, HQ.out⟩
  have e8 : (kind == 8) = false := by simpa using h8
  by_cases h9 : kind = 9
  · subst h9
    go_enter Tryd.func49, Tryd.ntmps49
    go_wp2_with fail
    refine (fail_any (HX.out _).1 k (by omega) (by omega)).mono ?_; rintro e w1 ⟨rfl, hp⟩
    have HQ := Lib.hid (HP.out _ _ _ (wrong_errs HE.out k 0) hp)
    clear hp
    go_wp2_with fail
    go_end0
    exact ⟨rfl, HQ.out⟩
  have e9 : (kind == 9) = false := by simpa using h9
  clear h1 h2 h3 h4 h5 h6 h7 h8 h9
  go_enter Tryd.func49, Tryd.ntmps49
  go_wp2_with fail
  go_end0
  exact ⟨rfl, HS.out _⟩
end Go.Proofs.YtedddekkbgaolaaDoor

