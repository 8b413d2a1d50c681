/- A writer laid on bytes, a reader on bytes: what is written is read. Of lists; no program. -/
import Derived.Test.YtmcekhgmmocajaaDoorRead
namespace Go.Proofs.YtmcekhgmmocajaaDoor.Tx
theorem bt_append (a b : List UInt8) (i : Nat) (h : i < a.length) : bt (a ++ b) i = bt a i := by simp [bt, List.getElem?_append_left h]
theorem bt_take (l : List UInt8) (k i : Nat) (h : i < k) : bt (l.take k) i = bt l i := by simp [bt, h]
theorem bt_cons (c : UInt8) (l : List UInt8) : bt (c :: l) 0 = c.toNat := by simp [bt]
theorem bt_cons_succ (c : UInt8) (l : List UInt8) (i : Nat) : bt (c :: l) (i + 1) = bt l i := by simp [bt]

theorem chrN_congr (n b0 b1 b2 b3 n' b1' b2' b3' : Nat) (h : chrN n b0 b1 b2 b3 ≠ 0) (hn : chrN n b0 b1 b2 b3 ≤ n') (h1 : 1 < chrN n b0 b1 b2 b3 → b1' = b1) (h2 : 2 < chrN n b0 b1 b2 b3 → b2' = b2) (h3 : 3 < chrN n b0 b1 b2 b3 → b3' = b3) :
    chrN n' b0 b1' b2' b3' = chrN n b0 b1 b2 b3 := by
  by_cases c1 : b0 < 128
  · simp [chrN, c1]
  by_cases c2 : (194 ≤ b0 ∧ b0 ≤ 223) ∧ 1 < n ∧ 128 ≤ b1 ∧ b1 ≤ 191
  · have e : chrN n b0 b1 b2 b3 = 2 := by simp only [chrN, c1, if_false]; rw [if_pos c2]
    rw [e] at hn h1 ⊢
    have := h1 (by omega)
    simp only [chrN, c1, if_false]
    rw [if_pos (by omega)]
  by_cases c3 : (224 ≤ b0 ∧ b0 ≤ 239) ∧ (1 < n ∧ (if b0 = 224 then 160 else 128) ≤ b1 ∧ b1 ≤ (if b0 = 237 then 159 else 191)) ∧ 2 < n ∧ 128 ≤ b2 ∧ b2 ≤ 191
  · have e : chrN n b0 b1 b2 b3 = 3 := by simp only [chrN, c1, if_false]; rw [if_neg c2, if_pos c3]
    rw [e] at hn h1 h2 ⊢
    have e1 := h1 (by omega)
    have e2 := h2 (by omega)
    simp only [chrN, c1, if_false]
    rw [if_neg (by omega), if_pos (by rw [e1, e2]; exact ⟨c3.1, ⟨by omega, c3.2.1.2⟩, by omega, c3.2.2.2⟩)]
  by_cases c4 : (240 ≤ b0 ∧ b0 ≤ 244) ∧ (1 < n ∧ (if b0 = 240 then 144 else 128) ≤ b1 ∧ b1 ≤ (if b0 = 244 then 143 else 191)) ∧ (2 < n ∧ 128 ≤ b2 ∧ b2 ≤ 191) ∧ 3 < n ∧ 128 ≤ b3 ∧ b3 ≤ 191
  · have e : chrN n b0 b1 b2 b3 = 4 := by simp only [chrN, c1, if_false]; rw [if_neg c2, if_neg c3, if_pos c4]
    rw [e] at hn h1 h2 h3 ⊢
    have e1 := h1 (by omega)
    have e2 := h2 (by omega)
    have e3 := h3 (by omega)
    simp only [chrN, c1, if_false]
    rw [if_neg (by omega), if_neg (by omega), if_pos (by rw [e1, e2, e3]; exact ⟨c4.1, ⟨by omega, c4.2.1.2⟩, ⟨by omega, c4.2.2.1.2⟩, by omega, c4.2.2.2.2⟩)]
  · exfalso
    apply h
    simp only [chrN, c1, if_false]
    rw [if_neg c2, if_neg c3, if_neg c4]

theorem chr_nil : chr [] = 0 := rfl
theorem chr_congr {l l' : List UInt8} (h : chr l ≠ 0) (hn : chr l ≤ l'.length) (he : ∀ i, i < chr l → bt l' i = bt l i) : chr l' = chr l := by
  have hl := ne_of_chr h
  have hl' : l' ≠ [] := by
    rintro rfl
    simp at hn
    omega
  rw [chr_of_ne hl] at h hn he ⊢
  rw [chr_of_ne hl', he 0 (by omega)]
  exact chrN_congr _ _ _ _ _ _ _ _ _ h hn (fun h => he 1 h) (fun h => he 2 h) (fun h => he 3 h)
theorem chr_append {a : List UInt8} (b : List UInt8) (h : chr a ≠ 0) : chr (a ++ b) = chr a :=
  chr_congr h (by have := (chr_le a).1; simp; omega) fun i hi => bt_append a b i (by have := (chr_le a).1; omega)
theorem chr_take {l : List UInt8} {k : Nat} (h : chr l ≠ 0) (hk : chr l ≤ k) : chr (l.take k) = chr l :=
  chr_congr h (by have := (chr_le l).1; simp; omega) fun i hi => bt_take l k i (by omega)

theorem good_nil : good [] = true := rfl
theorem good_front {l : List UInt8} (h : good l = true) (hl : l ≠ []) : chr l ≠ 0 ∧ bt l 0 ≠ 0 ∧ good (l.drop (chr l)) = true := by
  have hp := List.length_pos_iff.2 hl
  rw [good_iff] at h
  by_cases hc : chr l = 0 ∨ bt l 0 = 0
  · rw [badL_bad hc] at h
    omega
  · have h1 : chr l ≠ 0 := fun e => hc (Or.inl e)
    have h2 : bt l 0 ≠ 0 := fun e => hc (Or.inr e)
    refine ⟨h1, h2, ?_⟩
    rw [badL_good h1 h2] at h
    rw [good_iff, List.length_drop]
    omega
theorem good_cons {l : List UInt8} (h1 : chr l ≠ 0) (h2 : bt l 0 ≠ 0) (h : good (l.drop (chr l)) = true) : good l = true := by
  rw [good_iff] at h ⊢
  rw [badL_good h1 h2, h, List.length_drop]
  have := (chr_le l).1
  omega
theorem byGood {C : List UInt8 → Prop} (hnil : C []) (hgood : ∀ l, chr l ≠ 0 → bt l 0 ≠ 0 → good (l.drop (chr l)) = true → C (l.drop (chr l)) → C l) : ∀ l, good l = true → C l := by
  refine byPieces (C := fun l => good l = true → C l) (fun _ => hnil) (fun l hl hb hg => ?_) (fun l h h0 ih hg => ?_)
  · have := good_front hg hl
    omega
  · exact hgood l h h0 (good_front hg (ne_of_chr h)).2.2 (ih (good_front hg (ne_of_chr h)).2.2)

theorem drop_append_chr {a b : List UInt8} (h : chr a ≠ 0) : (a ++ b).drop (chr (a ++ b)) = a.drop (chr a) ++ b := by
  rw [chr_append b h, List.drop_append_of_le_length (chr_le a).1]
theorem bt0_append {a b : List UInt8} (h : a ≠ []) : bt (a ++ b) 0 = bt a 0 := bt_append a b 0 ((List.length_pos_iff.2 h))

theorem badL_append (b : List UInt8) : ∀ a, good a = true → badL (a ++ b) = a.length + badL b := by
  refine byGood (by simp) (fun a h h0 _ ih => ?_)
  have hl := ne_of_chr h
  have e : chr (a ++ b) ≠ 0 := by rw [chr_append b h]; exact h
  rw [badL_good e (by rw [bt0_append hl]; exact h0), drop_append_chr h, ih, chr_append b h, List.length_drop]
  have := (chr_le a).1
  omega
theorem good_append (a b : List UInt8) (h : good a = true) : good (a ++ b) = good b := by
  have := badL_append b a h
  rw [Bool.eq_iff_iff, good_iff, good_iff, this, List.length_append]
  omega

end Go.Proofs.YtmcekhgmmocajaaDoor.Tx
namespace Go.Proofs.YtmcekhgmmocajaaDoor

def txt (l : List UInt8) : List UInt8 := le l.length 2 ++ l
theorem txt_length (l : List UInt8) : (txt l).length = 2 + l.length := by simp [txt, le_length]

/-- What is wrong with a text; 0: nothing. -/
def textErr (t : ByteArray) : Nat := if 65535 < t.size then 13 else if Tx.good t.data.toList = true then 0 else 12
theorem textErr_zero {t : ByteArray} (h : textErr t = 0) : t.data.toList.length < 65536 ∧ Tx.good t.data.toList = true := by
  unfold textErr at h
  split at h
  · omega
  · split at h
    · refine ⟨?_, by assumption⟩
      simp only [Array.length_toList, ByteArray.size_data]
      omega
    · omega
theorem textErr_of {t : ByteArray} (h : t.data.toList.length < 65536) (hg : Tx.good t.data.toList = true) : textErr t = 0 := by
  simp only [Array.length_toList, ByteArray.size_data] at h
  unfold textErr
  rw [if_neg (by omega), if_pos hg]
def WSt.lay (S : WSt) (bs : List UInt8) : WSt := { S with bytes := S.bytes ++ bs }
theorem WSt.lay_put (S : WSt) (c bs : List UInt8) (h0 : S.err = 0) (hf : S.bytes.length + (c ++ bs).length ≤ S.limit) : (S.lay c).put bs = S.lay (c ++ bs) := by
  rw [WSt.put_fits _ (show (S.lay c).err = 0 from h0) (by simp only [WSt.lay, List.length_append] at hf ⊢; omega)]
  simp [WSt.lay]
theorem WSt.lay_text (S : WSt) (c : List UInt8) (t : ByteArray) (h0 : S.err = 0) (ht : textErr t = 0) (hf : S.bytes.length + (c ++ txt t.data.toList).length ≤ S.limit) : (S.lay c).text t.data.toList = S.lay (c ++ txt t.data.toList) := by
  obtain ⟨h1, h2⟩ := textErr_zero ht
  have e : (S.lay c).text t.data.toList = (S.lay c).put (le t.data.toList.length 2 ++ t.data.toList) := by
    unfold WSt.text
    rw [if_neg (by show ¬ S.err ≠ 0; omega), if_neg (by omega), if_neg (by simp [h2])]
  rw [e]
  exact WSt.lay_put S c _ h0 hf
def strOf (l : List UInt8) : ByteArray := ⟨l.toArray⟩
def RSt.step (S : RSt) (k : Nat) : RSt := { S with place := S.place + k }
structure RSt.On (S : RSt) (r : List UInt8) : Prop where
  err : S.err = 0
  rest : S.rest = r
theorem RSt.wrong_err (S : RSt) {e : Int} (n : Nat) (h : e ≠ 0) : (S.wrong e n).err ≠ 0 := by
  unfold RSt.wrong
  by_cases h0 : S.err = 0
  · rw [if_pos ⟨h0, h⟩]
    exact h
  · rw [if_neg (by simp [h0])]
    exact h0
theorem le_val : ∀ (l : List UInt8), le (val l) l.length = l
  | [] => rfl
  | b :: l => by
    have h : UInt8.ofNat (b.toNat + 256 * val l) = b := by
      rw [UInt8.ofNat_add, UInt8.ofNat_mul]
      simp
    have hb := b.toNat_lt
    simp only [val, List.length_cons, le, h]
    rw [show (b.toNat + 256 * val l) / 256 = val l by omega, le_val l]
theorem val_le (n k : Nat) : val (le n k) = n % 256 ^ k := by
  induction k generalizing n with
  | zero => simp [le, val, Nat.mod_one]
  | succ k ih =>
    simp only [le, val, ih, Nat.pow_succ']
    rw [Nat.mod_mul]
    simp
theorem val_le_of {n k : Nat} (h : n < 256 ^ k) : val (le n k) = n := by rw [val_le, Nat.mod_eq_of_lt h]
theorem RSt.get_on {S : RSt} {n k : Nat} {r : List UInt8} (h : S.On (le n k ++ r)) (hn : n < 256 ^ k) : S.get k = (n, S.step k) ∧ (S.step k).On r := by
  obtain ⟨h0, hr⟩ := h
  have hl : (le n k ++ r).take k = le n k := by rw [List.take_append_of_le_length (by rw [le_length]; omega), List.take_of_length_le (by rw [le_length]; omega)]
  refine ⟨?_, h0, ?_⟩
  · unfold RSt.get
    rw [if_neg (by omega), hr, if_neg (by simp [le_length]), hl, val_le_of hn]
    rfl
  · show S.bytes.drop (S.place + k) = r
    rw [← List.drop_drop]
    show S.rest.drop k = r
    rw [hr]
    exact List.drop_left' (le_length n k)
theorem RSt.get_of {S : RSt} {k : Nat} (h : (S.get k).2.err = 0) : S.On (le (S.get k).1 k ++ (S.get k).2.rest) ∧ (S.get k).1 < 256 ^ k ∧ (S.get k).2 = S.step k := by
  revert h
  unfold RSt.get
  by_cases h0 : S.err = 0
  · rw [if_neg (by omega)]
    by_cases hk : S.rest.length < k
    · rw [if_pos hk]
      intro h
      exact absurd h (S.wrong_err 0 (by omega))
    · rw [if_neg hk]
      intro _
      have hl : (S.rest.take k).length = k := by rw [List.length_take]; omega
      refine ⟨⟨h0, ?_⟩, ?_, rfl⟩
      · have e : le (val (S.rest.take k)) k = S.rest.take k := by
          have := le_val (S.rest.take k)
          rw [hl] at this
          exact this
        show S.rest = le (val (S.rest.take k)) k ++ S.bytes.drop (S.place + k)
        rw [e, ← List.drop_drop]
        exact (List.take_append_drop k S.rest).symm
      · have := val_lt (S.rest.take k)
        rw [hl] at this
        exact this
  · rw [if_pos h0]
    intro h
    exact absurd h h0
theorem RSt.counted_on {S : RSt} {l r : List UInt8} (h : S.On (txt l ++ r)) (hn : l.length < 65536) : S.counted = (some l.length, S) ∧ S.part2 l.length = l ∧ (S.step (2 + l.length)).On r := by
  obtain ⟨h0, hr⟩ := h
  have ht : (txt l ++ r).take 2 = le l.length 2 := by
    rw [txt, List.append_assoc]
    exact List.take_left' (le_length _ _)
  have hd : (txt l ++ r).drop 2 = l ++ r := by
    rw [txt, List.append_assoc]
    exact List.drop_left' (le_length _ _)
  refine ⟨?_, ?_, h0, ?_⟩
  · unfold RSt.counted
    rw [if_neg (by omega), hr, ht, val_le_of (by omega), if_neg (by rw [List.length_append, txt_length]; omega), if_neg (by rw [List.length_append, txt_length]; omega)]
  · unfold RSt.part2
    rw [hr, hd]
    exact List.take_left
  · show S.bytes.drop (S.place + (2 + l.length)) = r
    rw [← List.drop_drop, ← List.drop_drop]
    show (S.rest.drop 2).drop l.length = r
    rw [hr, hd]
    exact List.drop_left
theorem RSt.counted_of {S : RSt} {n : Nat} (h : S.counted.1 = some n) : S.counted = (some n, S) ∧ S.On (txt (S.part2 n) ++ (S.step (2 + n)).rest) ∧ (S.part2 n).length = n ∧ n < 65536 := by
  revert h
  unfold RSt.counted
  by_cases h0 : S.err = 0
  · rw [if_neg (by omega)]
    by_cases h2 : S.rest.length < 2
    · rw [if_pos h2]
      intro h
      cases h
    · rw [if_neg h2]
      by_cases hv : S.rest.length < 2 + val (S.rest.take 2)
      · rw [if_pos hv]
        intro h
        cases h
      · rw [if_neg hv]
        intro h
        simp only [Option.some.injEq] at h
        have hl : (S.rest.take 2).length = 2 := by rw [List.length_take]; omega
        have hlt := val_lt (S.rest.take 2)
        rw [hl] at hlt
        have e : le n 2 = S.rest.take 2 := by
          have := le_val (S.rest.take 2)
          rw [hl, h] at this
          exact this
        rw [h] at hv hlt
        have hp : (S.part2 n).length = n := by
          unfold RSt.part2
          rw [List.length_take, List.length_drop]
          omega
        refine ⟨by rw [h], ⟨h0, ?_⟩, hp, by omega⟩
        rw [txt, hp, e]
        show S.rest = S.rest.take 2 ++ (S.rest.drop 2).take n ++ S.bytes.drop (S.place + (2 + n))
        rw [← List.drop_drop, ← List.drop_drop, List.append_assoc]
        show S.rest = S.rest.take 2 ++ ((S.rest.drop 2).take n ++ (S.rest.drop 2).drop n)
        rw [List.take_append_drop, List.take_append_drop]
  · rw [if_pos h0]
    intro h
    cases h
theorem RSt.counted_none {S : RSt} (h : S.counted.1 = none) : S.counted.2.err ≠ 0 := by
  revert h
  unfold RSt.counted
  by_cases h0 : S.err = 0
  · rw [if_neg (by omega)]
    split
    · intro _
      exact S.wrong_err 0 (by omega)
    · split
      · intro _
        exact S.wrong_err 0 (by omega)
      · intro h
        cases h
  · rw [if_pos h0]
    intro _
    exact h0
theorem RSt.text_on {S : RSt} {l r : List UInt8} (h : S.On (txt l ++ r)) (hn : l.length < 65536) (hg : Tx.good l = true) : S.text = (l, S.step (2 + l.length)) ∧ (S.step (2 + l.length)).On r := by
  obtain ⟨hc, hp, ho⟩ := RSt.counted_on h hn
  refine ⟨?_, ho⟩
  unfold RSt.text
  rw [hc]
  simp only [hp, hg, if_true]
  simp [RSt.step, Nat.add_assoc]
theorem RSt.text_of {S : RSt} (h : S.text.2.err = 0) : S.On (txt S.text.1 ++ S.text.2.rest) ∧ S.text.1.length < 65536 ∧ Tx.good S.text.1 = true ∧ S.text.2 = S.step (2 + S.text.1.length) := by
  cases hc : S.counted with
  | mk o S' =>
    cases o with
    | none =>
      have hn := RSt.counted_none (S := S) (by rw [hc])
      rw [hc] at hn
      have e : S.text = ([], S') := by unfold RSt.text; rw [hc]
      rw [e] at h
      exact absurd h hn
    | some n =>
      obtain ⟨h1, h2, h3, h4⟩ := RSt.counted_of (S := S) (n := n) (by rw [hc])
      by_cases hg : Tx.good (S.part2 n) = true
      · have e : S.text = (S.part2 n, S.step (2 + n)) := by
          unfold RSt.text
          rw [h1]
          simp only [hg, if_true]
          simp [RSt.step, Nat.add_assoc]
        rw [e]
        refine ⟨h2, ?_, hg, ?_⟩
        · show (S.part2 n).length < 65536
          omega
        · show S.step (2 + n) = S.step (2 + (S.part2 n).length)
          rw [h3]
      · have e : S.text = ([], S.wrong 12 (2 + Tx.badL (S.part2 n))) := by
          unfold RSt.text
          rw [h1]
          simp only [hg]
          rfl
        rw [e] at h
        exact absurd h (S.wrong_err _ (by omega))
theorem RSt.fin_on {S : RSt} (h : S.On []) : S.fin = S := by
  have := h.rest
  unfold RSt.rest at this
  have := congrArg List.length this
  simp only [List.length_drop, List.length_nil] at this
  unfold RSt.fin
  rw [if_neg (by omega)]
theorem RSt.fin_of {S : RSt} (h : S.fin.err = 0) : S.On [] ∧ S.fin = S := by
  revert h
  unfold RSt.fin
  by_cases hp : S.place < S.bytes.length
  · rw [if_pos hp]
    intro h
    exact absurd h (S.wrong_err _ (by omega))
  · rw [if_neg hp]
    intro h
    exact ⟨⟨h, by unfold RSt.rest; exact List.drop_eq_nil_of_le (by omega)⟩, rfl⟩
theorem RSt.part_on {S : RSt} {l r : List UInt8} (h : S.On (txt l ++ r)) (hn : l.length < 65536) : S.part = (⟨l, 0, S.base + (S.place + 2), 0, 0⟩, S.step (2 + l.length)) ∧ (S.step (2 + l.length)).On r := by
  obtain ⟨hc, hp, ho⟩ := RSt.counted_on h hn
  refine ⟨?_, ho⟩
  unfold RSt.part
  rw [hc]
  simp only [hp]
  simp [RSt.step, Nat.add_assoc]
theorem RSt.part_of {S : RSt} (h : S.part.1.err = 0) : S.On (txt S.part.1.bytes ++ S.part.2.rest) ∧ S.part.1.bytes.length < 65536 ∧ S.part.1.On S.part.1.bytes ∧ S.part.2 = S.step (2 + S.part.1.bytes.length) := by
  cases hc : S.counted with
  | mk o S' =>
    cases o with
    | none =>
      have hn := RSt.counted_none (S := S) (by rw [hc])
      rw [hc] at hn
      have e : S.part.1 = ⟨[], 0, S'.spot, S'.err, S'.spot⟩ := by unfold RSt.part; rw [hc]
      rw [e] at h
      exact absurd h hn
    | some n =>
      obtain ⟨h1, h2, h3, h4⟩ := RSt.counted_of (S := S) (n := n) (by rw [hc])
      have e : S.part = (⟨S.part2 n, 0, S.base + (S.place + 2), 0, 0⟩, S.step (2 + n)) := by
        unfold RSt.part
        rw [h1]
        simp [RSt.step, Nat.add_assoc]
      rw [e]
      refine ⟨h2, ?_, ⟨rfl, rfl⟩, ?_⟩
      · show (S.part2 n).length < 65536
        omega
      · show S.step (2 + n) = S.step (2 + (S.part2 n).length)
        rw [h3]

theorem RSt.step_step (S : RSt) (a b : Nat) : (S.step a).step b = S.step (a + b) := by simp [RSt.step, Nat.add_assoc]
theorem RSt.step_err (S : RSt) (a : Nat) : (S.step a).err = S.err := rfl

end Go.Proofs.YtmcekhgmmocajaaDoor
