/- The reference writes in order what the program writes in order. -/
import Derived.Test.YtmcekhgmmocajaaGreatDoorOe
namespace Go.Proofs.YtmcekhgmmocajaaGreatDoor
open Go.RowKit Me

theorem less_trans : ∀ (a b c : List UInt8), Op.bytesLess a b = true → Op.bytesLess b c = true → Op.bytesLess a c = true
  | a, [], c, h, _ => by cases a <;> simp [Op.bytesLess] at h
  | a, _ :: _, [], _, h => by simp [Op.bytesLess] at h
  | [], _ :: _, _ :: _, _, _ => by simp [Op.bytesLess]
  | x :: a, y :: b, z :: c, h, k => by
    simp only [Op.bytesLess, Bool.or_eq_true, Bool.and_eq_true, decide_eq_true_eq, beq_iff_eq] at h k ⊢
    rcases h with h | ⟨rfl, h⟩
    · rcases k with k | ⟨rfl, k⟩
      · left
        rw [UInt8.lt_iff_toNat_lt] at *
        omega
      · exact Or.inl h
    · rcases k with k | ⟨rfl, k⟩
      · exact Or.inl k
      · exact Or.inr ⟨rfl, less_trans a b c h k⟩
theorem cmpB_cases (a b : ByteArray) : (cmpB a b = 0 ∧ a = b) ∨ (cmpB a b < 0 ∧ lessB a b = true) ∨ 0 < cmpB a b := by
  unfold cmpB
  cases h : lessB a b
  · cases h2 : a.toList == b.toList
    · right; right; simp
    · left
      have e := eq_of_beq h2
      rw [Lib.toList_data, Lib.toList_data] at e
      exact ⟨by simp, data_inj e⟩
  · right; left; simp
theorem cmpB_self (a : ByteArray) : cmpB a a = 0 := cmpB_eq (by simp)
theorem cmpL_self : ∀ l : List ByteArray, cmpL l l = 0
  | [] => rfl
  | a :: l => by
    unfold cmpL
    rw [if_pos (cmpB_self a)]
    exact cmpL_self l
theorem cmpL_trans : ∀ (l m n : List ByteArray), cmpL l m < 0 → cmpL m n < 0 → cmpL l n < 0
  | l, [], n, h, _ => absurd h (cmpL_nil l)
  | l, b :: m, [], _, h => absurd h (cmpL_nil _)
  | [], b :: m, c :: n, _, _ => by unfold cmpL; decide
  | a :: l, b :: m, c :: n, h, k => by
    unfold cmpL at h k ⊢
    rcases cmpB_cases a b with ⟨h1, rfl⟩ | ⟨h1, h2⟩ | h1
    · rw [if_pos h1] at h
      rcases cmpB_cases a c with ⟨k1, rfl⟩ | ⟨k1, k2⟩ | k1
      · rw [if_pos k1] at k ⊢
        exact cmpL_trans l m n h k
      · rw [if_neg (by omega)]
        exact k1
      · rw [if_neg (by omega)] at k
        omega
    · rcases cmpB_cases b c with ⟨k1, rfl⟩ | ⟨k1, k2⟩ | k1
      · rw [if_neg (by omega)]
        exact h1
      · have h3 : lessB a c = true := less_trans _ _ _ h2 k2
        have h4 : cmpB a c = -1 := by unfold cmpB; rw [if_pos h3]
        rw [if_neg (by omega)]
        omega
      · rw [if_neg (by omega)] at k
        omega
    · rw [if_neg (by omega)] at h
      omega
theorem ord_lt {L : List EntP} (h : ∀ (k : Nat) (x e : EntP), L[k]? = some x → L[k + 1]? = some e → cmpL (partsP x.path) (partsP e.path) < 0) :
    ∀ (j i : Nat) (x e : EntP), L[i]? = some x → L[i + j + 1]? = some e → cmpL (partsP x.path) (partsP e.path) < 0
  | 0, i, x, e, hx, he => h i x e hx he
  | j + 1, i, x, e, hx, he => by
    have hl := (List.getElem?_eq_some_iff.1 he).1
    obtain ⟨y, hy⟩ : ∃ y, L[i + j + 1]? = some y := ⟨_, List.getElem?_eq_getElem (by omega)⟩
    exact cmpL_trans _ _ _ (ord_lt h j i x y hx hy) (h (i + j + 1) y e hy he)
theorem dirAt_of {l : List EntP} {s : ByteArray} (hd : dirsN l s ≠ 0) (hu : ∀ (i j : Nat) (x e : EntP), l[i]? = some x → l[j]? = some e → x.path = e.path → i = j) : dirAt l s = true := by
  unfold dirsN at hd
  obtain ⟨d, hm⟩ := List.exists_mem_of_length_pos (Nat.pos_of_ne_zero hd)
  rw [List.mem_filter, Bool.and_eq_true, decide_eq_true_eq] at hm
  obtain ⟨h1, h2, h3⟩ := hm
  obtain ⟨j, hj⟩ := List.mem_iff_getElem?.1 h1
  have hs : s = d.path := data_inj h3
  subst hs
  unfold dirAt
  cases hf : l.findIdx? (fun e => e.path.toList == d.path.toList) with
  | none =>
    exfalso
    rw [List.findIdx?_eq_none_iff] at hf
    have := hf d h1
    simp at this
  | some i =>
    obtain ⟨hi, hp, _⟩ := List.findIdx?_eq_some_iff_getElem.1 hf
    have hp2 := eq_of_beq hp
    rw [Lib.toList_data, Lib.toList_data] at hp2
    have := hu i j l[i] d (List.getElem?_eq_getElem hi) hj (data_inj hp2)
    subst this
    simp only
    rw [hj]
    exact h2
theorem ref_of_ord (L : List EntP) (hall : L.all mayE = true) (hne : L ≠ []) (h : ordE L = true) : ordR L = true := by
  have hm : ∀ (k : Nat) (e : EntP), L[k]? = some e → partsP e.path = partsR e.path := fun k e he => may_parts (List.all_eq_true.1 hall e (List.mem_of_getElem? he))
  unfold ordE at h
  rw [List.all_eq_true] at h
  have hk : ∀ (k : Nat) (e : EntP), L[k]? = some e → ordAt (L.take k) e = true := fun k e he => by
    have h1 := h k (List.mem_range.2 (List.getElem?_eq_some_iff.1 he).1)
    rw [he] at h1
    exact h1
  have hlast : ∀ (j : Nat) (x : EntP), L[j]? = some x → (L.take (j + 1)).getLast? = some x := fun j x hx => by
    have := (List.getElem?_eq_some_iff.1 hx).1
    rw [List.getLast?_eq_getElem?, List.length_take, Nat.min_eq_left (by omega), List.getElem?_take, if_pos (by omega)]
    exact hx
  have hstep : ∀ (j : Nat) (x e : EntP), L[j]? = some x → L[j + 1]? = some e → dirsN (L.take (j + 1)) (upB (partsP e.path)) ≠ 0 ∧ cmpL (partsP x.path) (partsP e.path) < 0 := fun j x e hx he => by
    have h1 := hk (j + 1) e he
    unfold ordAt at h1
    rw [hlast j x hx] at h1
    simp only [Bool.and_eq_true, decide_eq_true_eq] at h1
    exact ⟨h1.2.1, h1.2.2⟩
  have hlt := ord_lt (L := L) (fun k x e hx he => (hstep k x e hx he).2)
  have huniq : ∀ (i j : Nat) (x e : EntP), L[i]? = some x → L[j]? = some e → x.path = e.path → i = j := fun i j x e hx he hp => by
    rcases Nat.lt_trichotomy i j with hij | hij | hij
    · have := hlt (j - i - 1) i x e hx (by rw [show i + (j - i - 1) + 1 = j by omega]; exact he)
      rw [hp, cmpL_self] at this
      omega
    · exact hij
    · have := hlt (i - j - 1) j e x he (by rw [show j + (i - j - 1) + 1 = i by omega]; exact hx)
      rw [hp, cmpL_self] at this
      omega
  unfold ordR
  rw [Bool.and_eq_true]
  obtain ⟨e0, he0⟩ : ∃ e, L[0]? = some e := ⟨_, List.getElem?_eq_getElem (List.length_pos_iff.2 hne)⟩
  refine ⟨?_, ?_⟩
  · have h1 := hk 0 e0 he0
    rw [he0]
    show (e0.path.toList == [46]) = true
    unfold ordAt partsP at h1
    by_cases hp : (e0.path.toList == [46]) = true
    · exact hp
    · rw [if_neg hp] at h1
      simp only [List.take_zero, List.getLast?_nil, List.isEmpty_iff] at h1
      exact absurd h1 (pieces_ne _)
  · unfold ordRTo
    rw [List.all_eq_true]
    intro j hj
    rw [List.mem_range] at hj
    obtain ⟨x, hx⟩ : ∃ x, L[j]? = some x := ⟨_, List.getElem?_eq_getElem (by omega)⟩
    obtain ⟨e, he⟩ : ∃ e, L[j + 1]? = some e := ⟨_, List.getElem?_eq_getElem (by omega)⟩
    obtain ⟨h1, h2⟩ := hstep j x e hx he
    unfold ordRAt
    rw [hx, he]
    simp only [Bool.and_eq_true, decide_eq_true_eq]
    rw [← hm _ _ hx, ← hm _ _ he, ← upB_above]
    refine ⟨h2, dirAt_of h1 fun a b p q hp hq hpq => huniq a b p q ?_ ?_ hpq⟩
    · rw [List.getElem?_take] at hp
      split at hp
      · exact hp
      · cases hp
    · rw [List.getElem?_take] at hq
      split at hq
      · exact hq
      · cases hq
/-- The program and the reference write the same. -/
theorem encPR_eq (L : List EntP) : encPR L = encP L := by
  unfold encPR encP
  cases hall : L.all mayE
  · rw [if_pos rfl, if_pos (Or.inr rfl)]
  · rw [if_neg (by decide)]
    by_cases hne : L = []
    · rw [if_pos hne, if_pos (Or.inl hne)]
    · rw [if_neg hne, if_neg (show ¬ (L = [] ∨ true = false) from by simp [hne])]
      have : ordR L = ordE L := by
        cases h : ordE L
        · cases h2 : ordR L
          · rfl
          · rw [ord_of_ref L hall h2] at h
            cases h
        · exact ref_of_ord L hall hne h
      rw [this]
end Go.Proofs.YtmcekhgmmocajaaGreatDoor
