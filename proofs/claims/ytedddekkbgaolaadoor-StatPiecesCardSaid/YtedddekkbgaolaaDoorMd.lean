/- Texts that are made of characters' numbers: good, cut where a character ends, and no texts when something that is no character stands between two of them. No program. -/
import Derived.Test.YtedddekkbgaolaaDoorText2
namespace Go.Proofs.YtedddekkbgaolaaDoor.Tx
open Go Go.Lib

/-- A character's bytes. -/
def charL (n : Nat) : List UInt8 :=
  if n < 128 then [UInt8.ofNat n]
  else if n < 2048 then [UInt8.ofNat (192 + n / 64), UInt8.ofNat (128 + n % 64)]
  else if n < 65536 then [UInt8.ofNat (224 + n / 4096), UInt8.ofNat (128 + n / 64 % 64), UInt8.ofNat (128 + n % 64)]
  else [UInt8.ofNat (240 + n / 262144), UInt8.ofNat (128 + n / 4096 % 64), UInt8.ofNat (128 + n / 64 % 64), UInt8.ofNat (128 + n % 64)]
/-- Is it a character's number, not 0? -/
def IsNum (n : Nat) : Prop := 1 ≤ n ∧ n ≤ 1114111 ∧ ¬ (55296 ≤ n ∧ n ≤ 57343)

theorem toNat_ofNat {x : Nat} (h : x < 256) : (UInt8.ofNat x).toNat = x := by
  rw [UInt8.toNat_ofNat']
  exact Nat.mod_eq_of_lt h
theorem charL_good {n : Nat} (h : IsNum n) (r : List UInt8) : chr (charL n ++ r) = (charL n).length ∧ bt (charL n ++ r) 0 ≠ 0 := by
  obtain ⟨h1, h2, h3⟩ := h
  unfold charL
  split
  · have e : bt ([UInt8.ofNat n] ++ r) 0 = n := by simp [bt_cons]; omega
    rw [chr_of_ne (by simp), e]
    refine ⟨?_, by omega⟩
    unfold chrN
    rw [if_pos (by omega)]
    rfl
  · split
    · have e0 : bt ([UInt8.ofNat (192 + n / 64), UInt8.ofNat (128 + n % 64)] ++ r) 0 = 192 + n / 64 := by simp [bt_cons]; omega
      have e1 : bt ([UInt8.ofNat (192 + n / 64), UInt8.ofNat (128 + n % 64)] ++ r) 1 = 128 + n % 64 := by
        show bt (UInt8.ofNat (192 + n / 64) :: (UInt8.ofNat (128 + n % 64) :: r)) (0 + 1) = _
        rw [bt_cons_succ, bt_cons, toNat_ofNat (by omega)]
      rw [chr_of_ne (by simp), e0, e1]
      refine ⟨?_, by omega⟩
      unfold chrN
      rw [if_neg (by omega), if_pos ⟨by omega, by simp, by omega⟩]
      rfl
    · split
      · have e0 : bt ([UInt8.ofNat (224 + n / 4096), UInt8.ofNat (128 + n / 64 % 64), UInt8.ofNat (128 + n % 64)] ++ r) 0 = 224 + n / 4096 := by
          show bt (UInt8.ofNat (224 + n / 4096) :: _) 0 = _
          rw [bt_cons, toNat_ofNat (by omega)]
        have e1 : bt ([UInt8.ofNat (224 + n / 4096), UInt8.ofNat (128 + n / 64 % 64), UInt8.ofNat (128 + n % 64)] ++ r) 1 = 128 + n / 64 % 64 := by
          show bt (UInt8.ofNat (224 + n / 4096) :: (UInt8.ofNat (128 + n / 64 % 64) :: _)) (0 + 1) = _
          rw [bt_cons_succ, bt_cons, toNat_ofNat (by omega)]
        have e2 : bt ([UInt8.ofNat (224 + n / 4096), UInt8.ofNat (128 + n / 64 % 64), UInt8.ofNat (128 + n % 64)] ++ r) 2 = 128 + n % 64 := by
          show bt (UInt8.ofNat (224 + n / 4096) :: (UInt8.ofNat (128 + n / 64 % 64) :: (UInt8.ofNat (128 + n % 64) :: r))) (0 + 1 + 1) = _
          rw [bt_cons_succ, bt_cons_succ, bt_cons, toNat_ofNat (by omega)]
        rw [chr_of_ne (by simp), e0, e1, e2]
        refine ⟨?_, by omega⟩
        unfold chrN
        rw [if_neg (by omega), if_neg (by omega), if_pos ⟨by omega, ⟨by simp, by split <;> omega, by split <;> omega⟩, by simp, by omega⟩]
        rfl
      · have e0 : bt ([UInt8.ofNat (240 + n / 262144), UInt8.ofNat (128 + n / 4096 % 64), UInt8.ofNat (128 + n / 64 % 64), UInt8.ofNat (128 + n % 64)] ++ r) 0 = 240 + n / 262144 := by
          show bt (UInt8.ofNat (240 + n / 262144) :: _) 0 = _
          rw [bt_cons, toNat_ofNat (by omega)]
        have e1 : bt ([UInt8.ofNat (240 + n / 262144), UInt8.ofNat (128 + n / 4096 % 64), UInt8.ofNat (128 + n / 64 % 64), UInt8.ofNat (128 + n % 64)] ++ r) 1 = 128 + n / 4096 % 64 := by
          show bt (_ :: (UInt8.ofNat (128 + n / 4096 % 64) :: _)) (0 + 1) = _
          rw [bt_cons_succ, bt_cons, toNat_ofNat (by omega)]
        have e2 : bt ([UInt8.ofNat (240 + n / 262144), UInt8.ofNat (128 + n / 4096 % 64), UInt8.ofNat (128 + n / 64 % 64), UInt8.ofNat (128 + n % 64)] ++ r) 2 = 128 + n / 64 % 64 := by
          show bt (_ :: (_ :: (UInt8.ofNat (128 + n / 64 % 64) :: _))) (0 + 1 + 1) = _
          rw [bt_cons_succ, bt_cons_succ, bt_cons, toNat_ofNat (by omega)]
        have e3 : bt ([UInt8.ofNat (240 + n / 262144), UInt8.ofNat (128 + n / 4096 % 64), UInt8.ofNat (128 + n / 64 % 64), UInt8.ofNat (128 + n % 64)] ++ r) 3 = 128 + n % 64 := by
          show bt (_ :: (_ :: (_ :: (UInt8.ofNat (128 + n % 64) :: r)))) (0 + 1 + 1 + 1) = _
          rw [bt_cons_succ, bt_cons_succ, bt_cons_succ, bt_cons, toNat_ofNat (by omega)]
        rw [chr_of_ne (by simp), e0, e1, e2, e3]
        refine ⟨?_, by omega⟩
        unfold chrN
        rw [if_neg (by omega), if_neg (by omega), if_neg (by omega), if_pos ⟨by omega, ⟨by simp, by split <;> omega, by split <;> omega⟩, ⟨by simp, by omega⟩, by simp, by omega⟩]
        rfl
theorem charL_len (n : Nat) : 1 ≤ (charL n).length ∧ (charL n).length ≤ 4 := by
  unfold charL
  repeat' split
  all_goals simp

def made (ns : List Nat) : List UInt8 := ns.flatMap charL
theorem made_nil : made [] = [] := rfl
theorem made_cons (n : Nat) (ns : List Nat) : made (n :: ns) = charL n ++ made ns := by simp [made]
theorem made_append (a b : List Nat) : made (a ++ b) = made a ++ made b := by simp [made]
theorem made_good : ∀ ns : List Nat, (∀ n ∈ ns, IsNum n) → good (made ns) = true
  | [], _ => good_nil
  | n :: ns, h => by
    obtain ⟨h1, h2⟩ := charL_good (h n (by simp)) (made ns)
    rw [made_cons]
    have hl := (charL_len n).1
    refine good_cons (by rw [h1]; omega) h2 ?_
    rw [h1, List.drop_left]
    exact made_good ns fun m hm => h m (by simp [hm])
theorem made_length_le : ∀ ns : List Nat, (made ns).length ≤ 4 * ns.length
  | [] => by simp [made]
  | n :: ns => by
    have := made_length_le ns
    have := (charL_len n).2
    rw [made_cons]
    simp only [List.length_append, List.length_cons]
    omega
/-- Where characters end, from a place on. -/
def endsFrom (p : Nat) : List Nat → List Nat
  | [] => [p]
  | n :: ns => p :: endsFrom (p + (charL n).length) ns
def lastEnd (m : Int) (e : Nat) (l : List Nat) : Nat := l.foldl (fun (e x : Nat) => if (x : Int) ≤ m then x else e) e
theorem lastEnd_made (m : Int) : ∀ (ns : List Nat) (p e : Nat), (∀ n ∈ ns, IsNum n) → lastEnd m e (endsFrom p ns) = if (p : Int) ≤ m then p + cutL (made ns) (m - p) else e
  | [], p, e, _ => by simp [endsFrom, lastEnd, made, cutL_nil]
  | n :: ns, p, e, h => by
    obtain ⟨h1, h2⟩ := charL_good (h n (by simp)) (made ns)
    have hl := charL_len n
    have hw : wid (made (n :: ns)) = (charL n).length := by
      rw [made_cons, wid_good (by rw [h1]; omega), h1]
    have hd : (made (n :: ns)).drop (wid (made (n :: ns))) = made ns := by rw [hw, made_cons, List.drop_left]
    have hne : made (n :: ns) ≠ [] := by
      rw [made_cons]
      intro e
      have := congrArg List.length e
      simp only [List.length_append, List.length_nil] at this
      omega
    have ih := lastEnd_made m ns (p + (charL n).length) (if (p : Int) ≤ m then p else e) fun k hk => h k (by simp [hk])
    have e1 : lastEnd m e (endsFrom p (n :: ns)) = lastEnd m (if (p : Int) ≤ m then p else e) (endsFrom (p + (charL n).length) ns) := rfl
    rw [e1, ih]
    by_cases hp : (p : Int) ≤ m
    · rw [if_pos hp, if_pos hp]
      by_cases hq : ((p + (charL n).length : Nat) : Int) ≤ m
      · rw [if_pos hq, cutL_go hne (by rw [hw]; omega), hd, hw]
        rw [show m - ((p + (charL n).length : Nat) : Int) = m - (p : Int) - ((charL n).length : Nat) by omega]
        omega
      · rw [if_neg hq, cutL_stop (by rw [hw]; omega)]
        omega
    · rw [if_neg hp, if_neg hp, if_neg (by omega)]
theorem endsFrom_take : ∀ (ns : List Nat) (p i : Nat), i ≤ ns.length → (endsFrom p ns)[i]? = some (p + (made (ns.take i)).length)
  | ns, p, 0, _ => by cases ns <;> simp [endsFrom, made]
  | [], p, i + 1, h => by simp at h
  | n :: ns, p, i + 1, h => by
    simp only [endsFrom, List.getElem?_cons_succ, List.take_succ_cons, made_cons, List.length_append]
    rw [endsFrom_take ns _ i (by simpa using h)]
    simp [Nat.add_assoc]
theorem endsFrom_length : ∀ (ns : List Nat) (p : Nat), (endsFrom p ns).length = ns.length + 1
  | [], _ => rfl
  | n :: ns, p => by simp [endsFrom, endsFrom_length ns]

theorem bt_one (c : UInt8) (l : List UInt8) : bt (c :: l) 1 = bt l 0 := bt_cons_succ c l 0
theorem bt_two (c : UInt8) (l : List UInt8) : bt (c :: l) 2 = bt l 1 := bt_cons_succ c l 1
theorem bt_three (c : UInt8) (l : List UInt8) : bt (c :: l) 3 = bt l 2 := bt_cons_succ c l 2
/-- What is no character, in twelve kinds. -/
def spoilL : Nat → List UInt8
  | 0 => [0]
  | 1 => [128]
  | 2 => [192, 128]
  | 3 => [193, 191]
  | 4 => [224, 159, 191]
  | 5 => [237, 160, 128]
  | 6 => [237, 191, 191]
  | 7 => [240, 143, 191, 191]
  | 8 => [244, 144, 128, 128]
  | 9 => [245, 128, 128, 128]
  | 10 => [226, 130]
  | _ => [240, 159, 152]
theorem chrN_front {n b0 b1 b2 b3 : Nat} (h : chrN n b0 b1 b2 b3 ≠ 0) : ¬ (128 ≤ b0 ∧ b0 ≤ 191) := by
  revert h
  unfold chrN
  repeat' split
  all_goals (intro h; omega)
/-- A text does not begin within a character. -/
theorem good_head {l : List UInt8} (h : good l = true) : ¬ (128 ≤ bt l 0 ∧ bt l 0 ≤ 191) := by
  by_cases hl : l = []
  · subst hl
    simp [bt]
  · obtain ⟨h1, h2, _⟩ := good_front h hl
    rw [chr_of_ne hl] at h1
    exact chrN_front h1
theorem chrN_none (n b0 b1 b2 b3 : Nat) (h : (128 ≤ b0 ∧ b0 ≤ 193) ∨ 245 ≤ b0 ∨ (b0 = 224 ∧ b1 < 160) ∨ (b0 = 237 ∧ 159 < b1) ∨ (b0 = 240 ∧ b1 < 144) ∨ (b0 = 244 ∧ 143 < b1) ∨
    (b0 = 226 ∧ ¬ (128 ≤ b2 ∧ b2 ≤ 191)) ∨ (b0 = 240 ∧ ¬ (128 ≤ b3 ∧ b3 ≤ 191))) : chrN n b0 b1 b2 b3 = 0 := by
  unfold chrN
  repeat' split
  all_goals omega
theorem chr_two (a b : UInt8) (r : List UInt8) : chr (a :: b :: r) = chrN (r.length + 2) a.toNat b.toNat (bt r 0) (bt r 1) := by
  rw [chr_of_ne (by simp), bt_cons, bt_one, bt_cons, bt_two, bt_one, bt_three, bt_two]
  rfl
theorem spoil_chr (k : Nat) {r : List UInt8} (hh : ¬ (128 ≤ bt r 0 ∧ bt r 0 ≤ 191)) : chr (spoilL k ++ r) = 0 ∨ bt (spoilL k ++ r) 0 = 0 := by
  unfold spoilL
  split
  · exact Or.inr rfl
  · refine Or.inl ?_
    rw [chr_of_ne (by simp)]
    exact chrN_none _ _ _ _ _ (Or.inl ⟨(by decide : 128 ≤ (128 : UInt8).toNat), (by decide : (128 : UInt8).toNat ≤ 193)⟩)
  · exact Or.inl ((chr_two 192 128 r).trans (chrN_none _ _ _ _ _ (Or.inl (by decide))))
  · exact Or.inl ((chr_two 193 191 r).trans (chrN_none _ _ _ _ _ (Or.inl (by decide))))
  · exact Or.inl ((chr_two 224 159 (191 :: r)).trans (chrN_none _ _ _ _ _ (Or.inr (Or.inr (Or.inl (by decide))))))
  · exact Or.inl ((chr_two 237 160 (128 :: r)).trans (chrN_none _ _ _ _ _ (Or.inr (Or.inr (Or.inr (Or.inl (by decide)))))))
  · exact Or.inl ((chr_two 237 191 (191 :: r)).trans (chrN_none _ _ _ _ _ (Or.inr (Or.inr (Or.inr (Or.inl (by decide)))))))
  · exact Or.inl ((chr_two 240 143 (191 :: 191 :: r)).trans (chrN_none _ _ _ _ _ (Or.inr (Or.inr (Or.inr (Or.inr (Or.inl (by decide))))))))
  · exact Or.inl ((chr_two 244 144 (128 :: 128 :: r)).trans (chrN_none _ _ _ _ _ (Or.inr (Or.inr (Or.inr (Or.inr (Or.inr (Or.inl (by decide)))))))))
  · exact Or.inl ((chr_two 245 128 (128 :: 128 :: r)).trans (chrN_none _ _ _ _ _ (Or.inr (Or.inl (by decide)))))
  · exact Or.inl ((chr_two 226 130 r).trans (chrN_none _ _ _ _ _ (Or.inr (Or.inr (Or.inr (Or.inr (Or.inr (Or.inr (Or.inl ⟨by decide, hh⟩)))))))))
  · refine Or.inl ((chr_two 240 159 (152 :: r)).trans (chrN_none _ _ _ _ _ (Or.inr (Or.inr (Or.inr (Or.inr (Or.inr (Or.inr (Or.inr ⟨by decide, ?_⟩)))))))))
    rw [bt_one]
    exact hh
theorem spoil_bad (k : Nat) {r : List UInt8} (h : good r = true) : good (spoilL k ++ r) = false := by
  rw [Bool.eq_false_iff]
  intro hg
  obtain ⟨h1, h2, _⟩ := good_front hg (by unfold spoilL; split <;> simp)
  rcases spoil_chr k (good_head h) with h3 | h3
  · exact h1 h3
  · exact h2 h3
theorem made_spoilt (ns : List Nat) (k i : Nat) (h : ∀ n ∈ ns, IsNum n) : good (made (ns.take i) ++ spoilL k ++ made (ns.drop i)) = false := by
  rw [List.append_assoc, good_append _ _ (made_good _ fun n hn => h n (List.mem_of_mem_take hn))]
  exact spoil_bad k (made_good _ fun n hn => h n (List.mem_of_mem_drop hn))
/-- The number that a raw one stands for. -/
def numOf (c : Int) : Nat :=
  let n := (if c < 0 then -(c + 1) else c).toNat % 1114111 + 1
  if 55296 ≤ n ∧ n ≤ 57343 then n - 2048 else n
theorem isNum_numOf (c : Int) : IsNum (numOf c) := by
  unfold numOf IsNum
  generalize (if c < 0 then -(c + 1) else c).toNat = k
  simp only
  split <;> omega
end Go.Proofs.YtedddekkbgaolaaDoor.Tx
