/- A writer laid on bytes, a reader on bytes: what is written is read. Of lists; no program. | Entries of a dump as plain data: their bytes, and what is read of bytes. No program. | Of a dump's bytes: one byte less, one more, or one turned, and no list of entries is written so. No program. | Modes: the bits that an entry may have, asked by masks and asked by numbers. No program. -/
import Derived.Test.YtmcekhgmmocajaaGreatDoorRead
import Derived.WalkKit
namespace Go.Proofs.YtmcekhgmmocajaaGreatDoor.Tx
theorem bt_append (a b : List UInt8) (i : Nat) (h : i < a.length) : bt (a ++ b) i = bt a i := by simp [bt, List.getElem?_append_left h]
theorem bt_take (l : List UInt8) (k i : Nat) (h : i < k) : bt (l.take k) i = bt l i := by simp [bt, h]
theorem bt_cons (c : UInt8) (l : List UInt8) : bt (c :: l) 0 = c.toNat := by simp [bt]
theorem bt_cons_succ (c : UInt8) (l : List UInt8) (i : Nat) : bt (c :: l) (i + 1) = bt l i := by simp [bt]

theorem chrN_congr (n b0 b1 b2 b3 n' b1' b2' b3' : Nat) (h : chrN n b0 b1 b2 b3 ≠ 0) (hn : chrN n b0 b1 b2 b3 ≤ n') (h1 : 1 < chrN n b0 b1 b2 b3 → b1' = b1) (h2 : 2 < chrN n b0 b1 b2 b3 → b2' = b2) (h3 : 3 < chrN n b0 b1 b2 b3 → b3' = b3) :
    chrN n' b0 b1' b2' b3' = chrN n b0 b1 b2 b3 := by
  by_cases c1 : b0 < 128
  · simp [chrN, c1]
  by_cases c2 : (194 ≤ b0 ∧ b0 ≤ 223) ∧ 1 < n ∧ 128 ≤ b1 ∧ b1 ≤ 191
  · have e : chrN n b0 b1 b2 b3 = 2 := by simp only [chrN, c1, if_false]; rw [if_pos c2]
    rw [e] at hn h1 ⊢
    have := h1 (by omega)
    simp only [chrN, c1, if_false]
    rw [if_pos (by omega)]
  by_cases c3 : (224 ≤ b0 ∧ b0 ≤ 239) ∧ (1 < n ∧ (if b0 = 224 then 160 else 128) ≤ b1 ∧ b1 ≤ (if b0 = 237 then 159 else 191)) ∧ 2 < n ∧ 128 ≤ b2 ∧ b2 ≤ 191
  · have e : chrN n b0 b1 b2 b3 = 3 := by simp only [chrN, c1, if_false]; rw [if_neg c2, if_pos c3]
    rw [e] at hn h1 h2 ⊢
    have e1 := h1 (by omega)
    have e2 := h2 (by omega)
    simp only [chrN, c1, if_false]
    rw [if_neg (by omega), if_pos (by rw [e1, e2]; exact ⟨c3.1, ⟨by omega, c3.2.1.2⟩, by omega, c3.2.2.2⟩)]
  by_cases c4 : (240 ≤ b0 ∧ b0 ≤ 244) ∧ (1 < n ∧ (if b0 = 240 then 144 else 128) ≤ b1 ∧ b1 ≤ (if b0 = 244 then 143 else 191)) ∧ (2 < n ∧ 128 ≤ b2 ∧ b2 ≤ 191) ∧ 3 < n ∧ 128 ≤ b3 ∧ b3 ≤ 191
  · have e : chrN n b0 b1 b2 b3 = 4 := by simp only [chrN, c1, if_false]; rw [if_neg c2, if_neg c3, if_pos c4]
    rw [e] at hn h1 h2 h3 ⊢
    have e1 := h1 (by omega)
    have e2 := h2 (by omega)
    have e3 := h3 (by omega)
    simp only [chrN, c1, if_false]
    rw [if_neg (by omega), if_neg (by omega), if_pos (by rw [e1, e2, e3]; exact ⟨c4.1, ⟨by omega, c4.2.1.2⟩, ⟨by omega, c4.2.2.1.2⟩, by omega, c4.2.2.2.2⟩)]
  · exfalso
    apply h
    simp only [chrN, c1, if_false]
    rw [if_neg c2, if_neg c3, if_neg c4]

theorem chr_nil : chr [] = 0 := rfl
theorem chr_congr {l l' : List UInt8} (h : chr l ≠ 0) (hn : chr l ≤ l'.length) (he : ∀ i, i < chr l → bt l' i = bt l i) : chr l' = chr l := by
  have hl := ne_of_chr h
  have hl' : l' ≠ [] := by
    rintro rfl
    simp at hn
    omega
  rw [chr_of_ne hl] at h hn he ⊢
  rw [chr_of_ne hl', he 0 (by omega)]
  exact chrN_congr _ _ _ _ _ _ _ _ _ h hn (fun h => he 1 h) (fun h => he 2 h) (fun h => he 3 h)
theorem chr_append {a : List UInt8} (b : List UInt8) (h : chr a ≠ 0) : chr (a ++ b) = chr a :=
  chr_congr h (by have := (chr_le a).1; simp; omega) fun i hi => bt_append a b i (by have := (chr_le a).1; omega)
theorem chr_take {l : List UInt8} {k : Nat} (h : chr l ≠ 0) (hk : chr l ≤ k) : chr (l.take k) = chr l :=
  chr_congr h (by have := (chr_le l).1; simp; omega) fun i hi => bt_take l k i (by omega)

theorem good_nil : good [] = true := rfl
theorem good_front {l : List UInt8} (h : good l = true) (hl : l ≠ []) : chr l ≠ 0 ∧ bt l 0 ≠ 0 ∧ good (l.drop (chr l)) = true := by
  have hp := List.length_pos_iff.2 hl
  rw [good_iff] at h
  by_cases hc : chr l = 0 ∨ bt l 0 = 0
  · rw [badL_bad hc] at h
    omega
  · have h1 : chr l ≠ 0 := fun e => hc (Or.inl e)
    have h2 : bt l 0 ≠ 0 := fun e => hc (Or.inr e)
    refine ⟨h1, h2, ?_⟩
    rw [badL_good h1 h2] at h
    rw [good_iff, List.length_drop]
    omega
theorem good_cons {l : List UInt8} (h1 : chr l ≠ 0) (h2 : bt l 0 ≠ 0) (h : good (l.drop (chr l)) = true) : good l = true := by
  rw [good_iff] at h ⊢
  rw [badL_good h1 h2, h, List.length_drop]
  have := (chr_le l).1
  omega
theorem byGood {C : List UInt8 → Prop} (hnil : C []) (hgood : ∀ l, chr l ≠ 0 → bt l 0 ≠ 0 → good (l.drop (chr l)) = true → C (l.drop (chr l)) → C l) : ∀ l, good l = true → C l := by
  refine byPieces (C := fun l => good l = true → C l) (fun _ => hnil) (fun l hl hb hg => ?_) (fun l h h0 ih hg => ?_)
  · have := good_front hg hl
    omega
  · exact hgood l h h0 (good_front hg (ne_of_chr h)).2.2 (ih (good_front hg (ne_of_chr h)).2.2)

theorem drop_append_chr {a b : List UInt8} (h : chr a ≠ 0) : (a ++ b).drop (chr (a ++ b)) = a.drop (chr a) ++ b := by
  rw [chr_append b h, List.drop_append_of_le_length (chr_le a).1]
theorem bt0_append {a b : List UInt8} (h : a ≠ []) : bt (a ++ b) 0 = bt a 0 := bt_append a b 0 ((List.length_pos_iff.2 h))

theorem badL_append (b : List UInt8) : ∀ a, good a = true → badL (a ++ b) = a.length + badL b := by
  refine byGood (by simp) (fun a h h0 _ ih => ?_)
  have hl := ne_of_chr h
  have e : chr (a ++ b) ≠ 0 := by rw [chr_append b h]; exact h
  rw [badL_good e (by rw [bt0_append hl]; exact h0), drop_append_chr h, ih, chr_append b h, List.length_drop]
  have := (chr_le a).1
  omega
theorem good_append (a b : List UInt8) (h : good a = true) : good (a ++ b) = good b := by
  have := badL_append b a h
  rw [Bool.eq_iff_iff, good_iff, good_iff, this, List.length_append]
  omega

end Go.Proofs.YtmcekhgmmocajaaGreatDoor.Tx
namespace Go.Proofs.YtmcekhgmmocajaaGreatDoor

def txt (l : List UInt8) : List UInt8 := le l.length 2 ++ l
theorem txt_length (l : List UInt8) : (txt l).length = 2 + l.length := by simp [txt, le_length]

/-- What is wrong with a text; 0: nothing. -/
def textErr (t : ByteArray) : Nat := if 65535 < t.size then 13 else if Tx.good t.data.toList = true then 0 else 12
theorem textErr_zero {t : ByteArray} (h : textErr t = 0) : t.data.toList.length < 65536 ∧ Tx.good t.data.toList = true := by
  unfold textErr at h
  split at h
  · omega
  · split at h
    · refine ⟨?_, by assumption⟩
      simp only [Array.length_toList, ByteArray.size_data]
      omega
    · omega
theorem textErr_of {t : ByteArray} (h : t.data.toList.length < 65536) (hg : Tx.good t.data.toList = true) : textErr t = 0 := by
  simp only [Array.length_toList, ByteArray.size_data] at h
  unfold textErr
  rw [if_neg (by omega), if_pos hg]
def WSt.lay (S : WSt) (bs : List UInt8) : WSt := { S with bytes := S.bytes ++ bs }
theorem WSt.lay_put (S : WSt) (c bs : List UInt8) (h0 : S.err = 0) (hf : S.bytes.length + (c ++ bs).length ≤ S.limit) : (S.lay c).put bs = S.lay (c ++ bs) := by
  rw [WSt.put_fits _ (show (S.lay c).err = 0 from h0) (by simp only [WSt.lay, List.length_append] at hf ⊢; omega)]
  simp [WSt.lay]
theorem WSt.lay_text (S : WSt) (c : List UInt8) (t : ByteArray) (h0 : S.err = 0) (ht : textErr t = 0) (hf : S.bytes.length + (c ++ txt t.data.toList).length ≤ S.limit) : (S.lay c).text t.data.toList = S.lay (c ++ txt t.data.toList) := by
  obtain ⟨h1, h2⟩ := textErr_zero ht
  have e : (S.lay c).text t.data.toList = (S.lay c).put (le t.data.toList.length 2 ++ t.data.toList) := by
    unfold WSt.text
    rw [if_neg (by show ¬ S.err ≠ 0; omega), if_neg (by omega), if_neg (by simp [h2])]
  rw [e]
  exact WSt.lay_put S c _ h0 hf
def strOf (l : List UInt8) : ByteArray := ⟨l.toArray⟩
def RSt.step (S : RSt) (k : Nat) : RSt := { S with place := S.place + k }
structure RSt.On (S : RSt) (r : List UInt8) : Prop where
  err : S.err = 0
  rest : S.rest = r
theorem RSt.wrong_err (S : RSt) {e : Int} (n : Nat) (h : e ≠ 0) : (S.wrong e n).err ≠ 0 := by
  unfold RSt.wrong
  by_cases h0 : S.err = 0
  · rw [if_pos ⟨h0, h⟩]
    exact h
  · rw [if_neg (by simp [h0])]
    exact h0
theorem le_val : ∀ (l : List UInt8), le (val l) l.length = l
  | [] => rfl
  | b :: l => by
    have h : UInt8.ofNat (b.toNat + 256 * val l) = b := by
      rw [UInt8.ofNat_add, UInt8.ofNat_mul]
      simp
    have hb := b.toNat_lt
    simp only [val, List.length_cons, le, h]
    rw [show (b.toNat + 256 * val l) / 256 = val l by omega, le_val l]
theorem val_le (n k : Nat) : val (le n k) = n % 256 ^ k := by
  induction k generalizing n with
  | zero => simp [le, val, Nat.mod_one]
  | succ k ih =>
    simp only [le, val, ih, Nat.pow_succ']
    rw [Nat.mod_mul]
    simp
theorem val_le_of {n k : Nat} (h : n < 256 ^ k) : val (le n k) = n := by rw [val_le, Nat.mod_eq_of_lt h]
theorem RSt.get_on {S : RSt} {n k : Nat} {r : List UInt8} (h : S.On (le n k ++ r)) (hn : n < 256 ^ k) : S.get k = (n, S.step k) ∧ (S.step k).On r := by
  obtain ⟨h0, hr⟩ := h
  have hl : (le n k ++ r).take k = le n k := by rw [List.take_append_of_le_length (by rw [le_length]; omega), List.take_of_length_le (by rw [le_length]; omega)]
  refine ⟨?_, h0, ?_⟩
  · unfold RSt.get
    rw [if_neg (by omega), hr, if_neg (by simp [le_length]), hl, val_le_of hn]
    rfl
  · show S.bytes.drop (S.place + k) = r
    rw [← List.drop_drop]
    show S.rest.drop k = r
    rw [hr]
    exact List.drop_left' (le_length n k)
theorem RSt.get_of {S : RSt} {k : Nat} (h : (S.get k).2.err = 0) : S.On (le (S.get k).1 k ++ (S.get k).2.rest) ∧ (S.get k).1 < 256 ^ k ∧ (S.get k).2 = S.step k := by
  revert h
  unfold RSt.get
  by_cases h0 : S.err = 0
  · rw [if_neg (by omega)]
    by_cases hk : S.rest.length < k
    · rw [if_pos hk]
      intro h
      exact absurd h (S.wrong_err 0 (by omega))
    · rw [if_neg hk]
      intro _
      have hl : (S.rest.take k).length = k := by rw [List.length_take]; omega
      refine ⟨⟨h0, ?_⟩, ?_, rfl⟩
      · have e : le (val (S.rest.take k)) k = S.rest.take k := by
          have := le_val (S.rest.take k)
          rw [hl] at this
          exact this
        show S.rest = le (val (S.rest.take k)) k ++ S.bytes.drop (S.place + k)
        rw [e, ← List.drop_drop]
        exact (List.take_append_drop k S.rest).symm
      · have := val_lt (S.rest.take k)
        rw [hl] at this
        exact this
  · rw [if_pos h0]
    intro h
    exact absurd h h0
theorem RSt.counted_on {S : RSt} {l r : List UInt8} (h : S.On (txt l ++ r)) (hn : l.length < 65536) : S.counted = (some l.length, S) ∧ S.part2 l.length = l ∧ (S.step (2 + l.length)).On r := by
  obtain ⟨h0, hr⟩ := h
  have ht : (txt l ++ r).take 2 = le l.length 2 := by
    rw [txt, List.append_assoc]
    exact List.take_left' (le_length _ _)
  have hd : (txt l ++ r).drop 2 = l ++ r := by
    rw [txt, List.append_assoc]
    exact List.drop_left' (le_length _ _)
  refine ⟨?_, ?_, h0, ?_⟩
  · unfold RSt.counted
    rw [if_neg (by omega), hr, ht, val_le_of (by omega), if_neg (by rw [List.length_append, txt_length]; omega), if_neg (by rw [List.length_append, txt_length]; omega)]
  · unfold RSt.part2
    rw [hr, hd]
    exact List.take_left
  · show S.bytes.drop (S.place + (2 + l.length)) = r
    rw [← List.drop_drop, ← List.drop_drop]
    show (S.rest.drop 2).drop l.length = r
    rw [hr, hd]
    exact List.drop_left
theorem RSt.counted_of {S : RSt} {n : Nat} (h : S.counted.1 = some n) : S.counted = (some n, S) ∧ S.On (txt (S.part2 n) ++ (S.step (2 + n)).rest) ∧ (S.part2 n).length = n ∧ n < 65536 := by
  revert h
  unfold RSt.counted
  by_cases h0 : S.err = 0
  · rw [if_neg (by omega)]
    by_cases h2 : S.rest.length < 2
    · rw [if_pos h2]
      intro h
      cases h
    · rw [if_neg h2]
      by_cases hv : S.rest.length < 2 + val (S.rest.take 2)
      · rw [if_pos hv]
        intro h
        cases h
      · rw [if_neg hv]
        intro h
        simp only [Option.some.injEq] at h
        have hl : (S.rest.take 2).length = 2 := by rw [List.length_take]; omega
        have hlt := val_lt (S.rest.take 2)
        rw [hl] at hlt
        have e : le n 2 = S.rest.take 2 := by
          have := le_val (S.rest.take 2)
          rw [hl, h] at this
          exact this
        rw [h] at hv hlt
        have hp : (S.part2 n).length = n := by
          unfold RSt.part2
          rw [List.length_take, List.length_drop]
          omega
        refine ⟨by rw [h], ⟨h0, ?_⟩, hp, by omega⟩
        rw [txt, hp, e]
        show S.rest = S.rest.take 2 ++ (S.rest.drop 2).take n ++ S.bytes.drop (S.place + (2 + n))
        rw [← List.drop_drop, ← List.drop_drop, List.append_assoc]
        show S.rest = S.rest.take 2 ++ ((S.rest.drop 2).take n ++ (S.rest.drop 2).drop n)
        rw [List.take_append_drop, List.take_append_drop]
  · rw [if_pos h0]
    intro h
    cases h
theorem RSt.counted_none {S : RSt} (h : S.counted.1 = none) : S.counted.2.err ≠ 0 := by
  revert h
  unfold RSt.counted
  by_cases h0 : S.err = 0
  · rw [if_neg (by omega)]
    split
    · intro _
      exact S.wrong_err 0 (by omega)
    · split
      · intro _
        exact S.wrong_err 0 (by omega)
      · intro h
        cases h
  · rw [if_pos h0]
    intro _
    exact h0
theorem RSt.text_on {S : RSt} {l r : List UInt8} (h : S.On (txt l ++ r)) (hn : l.length < 65536) (hg : Tx.good l = true) : S.text = (l, S.step (2 + l.length)) ∧ (S.step (2 + l.length)).On r := by
  obtain ⟨hc, hp, ho⟩ := RSt.counted_on h hn
  refine ⟨?_, ho⟩
  unfold RSt.text
  rw [hc]
  simp only [hp, hg, if_true]
  simp [RSt.step, Nat.add_assoc]
theorem RSt.text_of {S : RSt} (h : S.text.2.err = 0) : S.On (txt S.text.1 ++ S.text.2.rest) ∧ S.text.1.length < 65536 ∧ Tx.good S.text.1 = true ∧ S.text.2 = S.step (2 + S.text.1.length) := by
  cases hc : S.counted with
  | mk o S' =>
    cases o with
    | none =>
      have hn := RSt.counted_none (S := S) (by rw [hc])
      rw [hc] at hn
      have e : S.text = ([], S') := by unfold RSt.text; rw [hc]
      rw [e] at h
      exact absurd h hn
    | some n =>
      obtain ⟨h1, h2, h3, h4⟩ := RSt.counted_of (S := S) (n := n) (by rw [hc])
      by_cases hg : Tx.good (S.part2 n) = true
      · have e : S.text = (S.part2 n, S.step (2 + n)) := by
          unfold RSt.text
          rw [h1]
          simp only [hg, if_true]
          simp [RSt.step, Nat.add_assoc]
        rw [e]
        refine ⟨h2, ?_, hg, ?_⟩
        · show (S.part2 n).length < 65536
          omega
        · show S.step (2 + n) = S.step (2 + (S.part2 n).length)
          rw [h3]
      · have e : S.text = ([], S.wrong 12 (2 + Tx.badL (S.part2 n))) := by
          unfold RSt.text
          rw [h1]
          simp only [hg]
          rfl
        rw [e] at h
        exact absurd h (S.wrong_err _ (by omega))
theorem RSt.fin_on {S : RSt} (h : S.On []) : S.fin = S := by
  have := h.rest
  unfold RSt.rest at this
  have := congrArg List.length this
  simp only [List.length_drop, List.length_nil] at this
  unfold RSt.fin
  rw [if_neg (by omega)]
theorem RSt.fin_of {S : RSt} (h : S.fin.err = 0) : S.On [] ∧ S.fin = S := by
  revert h
  unfold RSt.fin
  by_cases hp : S.place < S.bytes.length
  · rw [if_pos hp]
    intro h
    exact absurd h (S.wrong_err _ (by omega))
  · rw [if_neg hp]
    intro h
    exact ⟨⟨h, by unfold RSt.rest; exact List.drop_eq_nil_of_le (by omega)⟩, rfl⟩
theorem RSt.part_on {S : RSt} {l r : List UInt8} (h : S.On (txt l ++ r)) (hn : l.length < 65536) : S.part = (⟨l, 0, S.base + (S.place + 2), 0, 0⟩, S.step (2 + l.length)) ∧ (S.step (2 + l.length)).On r := by
  obtain ⟨hc, hp, ho⟩ := RSt.counted_on h hn
  refine ⟨?_, ho⟩
  unfold RSt.part
  rw [hc]
  simp only [hp]
  simp [RSt.step, Nat.add_assoc]
theorem RSt.part_of {S : RSt} (h : S.part.1.err = 0) : S.On (txt S.part.1.bytes ++ S.part.2.rest) ∧ S.part.1.bytes.length < 65536 ∧ S.part.1.On S.part.1.bytes ∧ S.part.2 = S.step (2 + S.part.1.bytes.length) := by
  cases hc : S.counted with
  | mk o S' =>
    cases o with
    | none =>
      have hn := RSt.counted_none (S := S) (by rw [hc])
      rw [hc] at hn
      have e : S.part.1 = ⟨[], 0, S'.spot, S'.err, S'.spot⟩ := by unfold RSt.part; rw [hc]
      rw [e] at h
      exact absurd h hn
    | some n =>
      obtain ⟨h1, h2, h3, h4⟩ := RSt.counted_of (S := S) (n := n) (by rw [hc])
      have e : S.part = (⟨S.part2 n, 0, S.base + (S.place + 2), 0, 0⟩, S.step (2 + n)) := by
        unfold RSt.part
        rw [h1]
        simp [RSt.step, Nat.add_assoc]
      rw [e]
      refine ⟨h2, ?_, ⟨rfl, rfl⟩, ?_⟩
      · show (S.part2 n).length < 65536
        omega
      · show S.step (2 + n) = S.step (2 + (S.part2 n).length)
        rw [h3]

theorem RSt.step_step (S : RSt) (a b : Nat) : (S.step a).step b = S.step (a + b) := by simp [RSt.step, Nat.add_assoc]
theorem RSt.step_err (S : RSt) (a : Nat) : (S.step a).err = S.err := rfl

end Go.Proofs.YtmcekhgmmocajaaGreatDoor
namespace Go.Proofs.YtmcekhgmmocajaaGreatDoor

structure EntP where
  path : ByteArray
  mode : Nat
  mtime : Nat
  gid : ByteArray
  data : List UInt8
structure EntP.Fits (e : EntP) : Prop where
  mode : e.mode < 4294967296
  mtime : e.mtime < 4294967296
/-- What can be written and read again. -/
structure EntP.Fine (e : EntP) : Prop extends e.Fits where
  path : textErr e.path = 0
  gid : textErr e.gid = 0
  data : e.data.length ≤ 65536
namespace EntP
def enc (e : EntP) : List UInt8 := txt e.path.data.toList ++ le e.mode 4 ++ le e.mtime 4 ++ txt e.gid.data.toList ++ le e.data.length 4 ++ e.data
def size (e : EntP) : Nat := 16 + e.path.size + e.gid.size + e.data.length
theorem enc_length (e : EntP) : e.enc.length = e.size := by
  simp only [enc, size, List.length_append, le_length, txt_length, Array.length_toList, ByteArray.size_data]
  omega
end EntP
def encL (l : List EntP) : List UInt8 := l.flatMap EntP.enc
def sizeL (l : List EntP) : Nat := (l.map EntP.size).sum
theorem encL_snoc (l : List EntP) (e : EntP) : encL (l ++ [e]) = encL l ++ e.enc := by simp [encL]
theorem encL_length (l : List EntP) : (encL l).length = sizeL l := by
  induction l with
  | nil => rfl
  | cons e l ih => 
    show (e.enc ++ encL l).length = _
    rw [List.length_append, e.enc_length, ih]
    simp [sizeL]
def headD : List UInt8 := [118, 100, 117, 109, 112, 49, 10]
def bodyD (l : List EntP) : List UInt8 := headD ++ le l.length 4 ++ encL l
theorem bodyD_length (l : List EntP) : (bodyD l).length = 11 + sizeL l := by
  simp [bodyD, headD, le_length, encL_length]
  omega

/- The sum. -/
def mulS (x : Nat) : Nat := (x * 11800147728694460525) % 18446744073709551616
def shS (x : Nat) : Nat := x ^^^ (x >>> 29)
def stepS (h n : Nat) : Nat := shS (mulS (h ^^^ n))
def sumF (l : List UInt8) (h : Nat) : Nat := l.foldl (fun h b => stepS h (b.toNat + 1)) h
def sumD (l : List UInt8) : Nat := stepS (stepS (sumF l 7880330927811272263) l.length) 0
theorem mulS_lt (x : Nat) : mulS x < 18446744073709551616 := Nat.mod_lt _ (by decide)
theorem shS_lt {x : Nat} (h : x < 18446744073709551616) : shS x < 18446744073709551616 :=
  Nat.xor_lt_two_pow (n := 64) h (Nat.lt_of_le_of_lt (Nat.shiftRight_le _ _) h)
theorem stepS_lt (h n : Nat) : stepS h n < 18446744073709551616 := shS_lt (mulS_lt _)
theorem sumD_lt (l : List UInt8) : sumD l < 18446744073709551616 := stepS_lt _ _
def fullD (l : List EntP) : List UInt8 := bodyD l ++ le (sumD (bodyD l)) 8
theorem fullD_length (l : List EntP) : (fullD l).length = 19 + sizeL l := by
  simp [fullD, bodyD_length, le_length]
  omega

/- The writer. -/
def WSt.entry (S : WSt) (e : EntP) : WSt :=
  (((((S.text e.path.data.toList).put (le e.mode 4)).put (le e.mtime 4)).text e.gid.data.toList).put (le e.data.length 4)).put e.data
theorem WSt.lay_nil (S : WSt) : S.lay [] = S := by simp [WSt.lay]
theorem WSt.lay_lay (S : WSt) (a b : List UInt8) : (S.lay a).lay b = S.lay (a ++ b) := by simp [WSt.lay]
theorem WSt.entry_fits {S : WSt} {e : EntP} (h0 : S.err = 0) (hs : e.Fine) (hf : S.bytes.length + e.size ≤ S.limit) : S.entry e = S.lay e.enc := by
  have hl := e.enc_length
  simp only [EntP.enc, List.length_append, le_length, txt_length] at hl
  unfold WSt.entry
  have b1 := S.lay_text [] e.path h0 hs.path (by simp only [List.length_append, List.length_nil, txt_length]; omega)
  rw [S.lay_nil] at b1
  rw [b1]
  rw [S.lay_put _ (le e.mode 4) h0 (by simp only [List.length_append, List.length_nil, le_length, txt_length]; omega)]
  rw [S.lay_put _ (le e.mtime 4) h0 (by simp only [List.length_append, List.length_nil, le_length, txt_length]; omega)]
  rw [S.lay_text _ e.gid h0 hs.gid (by simp only [List.length_append, List.length_nil, le_length, txt_length]; omega)]
  rw [S.lay_put _ (le e.data.length 4) h0 (by simp only [List.length_append, List.length_nil, le_length, txt_length]; omega)]
  rw [S.lay_put _ e.data h0 (by simp only [List.length_append, List.length_nil, le_length, txt_length]; omega)]
  rw [List.nil_append]
  rfl
theorem WSt.put_stuck {S : WSt} (bs : List UInt8) (h : S.err ≠ 0) : (S.put bs) = S := if_pos h
theorem WSt.text_stuck {S : WSt} (l : List UInt8) (h : S.err ≠ 0) : (S.text l) = S := if_pos h
theorem WSt.entry_stuck {S : WSt} (e : EntP) (h : S.err ≠ 0) : S.entry e = S := by
  unfold WSt.entry
  rw [WSt.text_stuck _ h, WSt.put_stuck _ h, WSt.put_stuck _ h, WSt.text_stuck _ h, WSt.put_stuck _ h, WSt.put_stuck _ h]
theorem WSt.Wf.entry {S : WSt} (h : S.Wf) (e : EntP) : (S.entry e).Wf := (((((h.text _).put _).put _).text _).put _).put _
def WSt.entries (S : WSt) (l : List EntP) : WSt := l.foldl WSt.entry S
theorem WSt.entries_snoc (S : WSt) (l : List EntP) (e : EntP) : S.entries (l ++ [e]) = (S.entries l).entry e := by simp [WSt.entries]
theorem WSt.entries_stuck {S : WSt} (h : S.err ≠ 0) : ∀ (l : List EntP), S.entries l = S
  | [] => rfl
  | e :: l => by
    show (S.entry e).entries l = S
    rw [WSt.entry_stuck e h]
    exact WSt.entries_stuck h l
theorem WSt.entries_fits : ∀ (l : List EntP) {S : WSt}, S.err = 0 → (∀ e ∈ l, e.Fine) → S.bytes.length + sizeL l ≤ S.limit → S.entries l = S.lay (encL l)
  | [], S, _, _, _ => (S.lay_nil).symm
  | e :: l, S, h0, hs, hf => by
    have hz : sizeL (e :: l) = e.size + sizeL l := by simp [sizeL]
    show (S.entry e).entries l = _
    rw [WSt.entry_fits h0 (hs e (by simp)) (by omega)]
    rw [WSt.entries_fits l (S := S.lay e.enc) h0 (fun x hx => hs x (by simp [hx])) (by simp only [WSt.lay, List.length_append, e.enc_length]; omega), WSt.lay_lay]
    rfl
/-- Nothing grows a writer without bytes. -/
theorem WSt.grows_put (S : WSt) (bs : List UInt8) : (S.put bs).err = 0 → (S.put bs).bytes.length = S.bytes.length + bs.length ∧ (S.put bs).limit = S.limit ∧ S.err = 0 ∧ (S.put bs).bytes.length ≤ S.limit := by
  unfold WSt.put
  split
  · intro h; contradiction
  · split
    · intro h; cases h
    · intro h
      refine ⟨by simp, rfl, h, ?_⟩
      simp; omega
theorem WSt.grows_text (S : WSt) (l : List UInt8) : (S.text l).err = 0 → (S.text l).bytes.length = S.bytes.length + 2 + l.length ∧ (S.text l).limit = S.limit ∧ S.err = 0 := by
  unfold WSt.text
  split
  · intro h; contradiction
  · split
    · intro h; cases h
    · split
      · intro h; cases h
      · intro h
        obtain ⟨h1, h2, h3, _⟩ := WSt.grows_put _ _ h
        refine ⟨by rw [h1, List.length_append, le_length]; omega, h2, h3⟩
theorem WSt.grows_entry (S : WSt) (e : EntP) (h : (S.entry e).err = 0) : (S.entry e).bytes.length = S.bytes.length + e.size ∧ (S.entry e).limit = S.limit ∧ S.err = 0 := by
  unfold WSt.entry at h ⊢
  obtain ⟨a1, a2, a3, _⟩ := WSt.grows_put _ _ h
  obtain ⟨b1, b2, b3, _⟩ := WSt.grows_put _ _ a3
  obtain ⟨c1, c2, c3⟩ := WSt.grows_text _ _ b3
  obtain ⟨d1, d2, d3, _⟩ := WSt.grows_put _ _ c3
  obtain ⟨e1, e2, e3, _⟩ := WSt.grows_put _ _ d3
  obtain ⟨f1, f2, f3⟩ := WSt.grows_text _ _ e3
  refine ⟨?_, by rw [a2, b2, c2, d2, e2, f2], f3⟩
  rw [a1, b1, c1, d1, e1, f1]
  simp only [le_length, EntP.size, Array.length_toList, ByteArray.size_data]
  omega
theorem WSt.grows_entries : ∀ (l : List EntP) (S : WSt), (S.entries l).err = 0 → (S.entries l).bytes.length = S.bytes.length + sizeL l ∧ (S.entries l).limit = S.limit ∧ S.err = 0
  | [], S, h => ⟨rfl, rfl, h⟩
  | e :: l, S, h => by
    obtain ⟨h1, h2, h3⟩ := WSt.grows_entries l (S.entry e) h
    obtain ⟨k1, k2, k3⟩ := WSt.grows_entry S e h3
    refine ⟨?_, h2.trans k2, k3⟩
    show ((S.entry e).entries l).bytes.length = _
    rw [h1, k1]
    simp [sizeL]
    omega
/-- The writer ahead of the sum. -/
def wroteD (l : List EntP) : WSt := (((⟨16777216, [], [], 0⟩ : WSt).put headD).put (le l.length 4)).entries l
theorem wroteD_fits (l : List EntP) (hs : ∀ e ∈ l, e.Fine) (hf : 11 + sizeL l ≤ 16777216) : wroteD l = ⟨16777216, bodyD l, [], 0⟩ := by
  unfold wroteD
  have e1 : (⟨16777216, [], [], 0⟩ : WSt).put headD = ⟨16777216, headD, [], 0⟩ := rfl
  rw [e1]
  have e2 : (⟨16777216, headD, [], 0⟩ : WSt).put (le l.length 4) = ⟨16777216, headD ++ le l.length 4, [], 0⟩ := by
    rw [WSt.put_fits _ rfl (by simp [headD, le_length])]
  rw [e2, WSt.entries_fits l rfl hs (by simp [headD, le_length]; omega)]
  rfl
theorem wroteD_full (l : List EntP) (hf : 16777216 < 11 + sizeL l) : (wroteD l).err ≠ 0 := by
  intro h
  obtain ⟨h1, h2, h3⟩ := WSt.grows_entries l _ h
  have hw : (wroteD l).Wf := by
    have w0 : (⟨16777216, [], [], 0⟩ : WSt).Wf := ⟨Nat.le_refl _, Nat.zero_le _, by simp, Nat.le_refl _, by simp⟩
    have : ∀ (l : List EntP) (S : WSt), S.Wf → (S.entries l).Wf := by
      intro l
      induction l with
      | nil => intro S h; exact h
      | cons e l ih => intro S h; exact ih _ (h.entry e)
    exact this l _ ((w0.put _).put _)
  have := hw.bytes
  have e1 : (⟨16777216, [], [], 0⟩ : WSt).put headD = ⟨16777216, headD, [], 0⟩ := rfl
  have e2 : (⟨16777216, headD, [], 0⟩ : WSt).put (le l.length 4) = ⟨16777216, headD ++ le l.length 4, [], 0⟩ := by
    rw [WSt.put_fits _ rfl (by simp [headD, le_length])]
  rw [e1, e2] at h1 h2
  unfold wroteD at this
  rw [e1, e2, h1, h2] at this
  simp [headD, le_length] at this
  omega

/- The reader. -/
def RSt.entry (S : RSt) : EntP × RSt :=
  let a := S.text
  let b := a.2.get 4
  let c := b.2.get 4
  let d := c.2.text
  let n := d.2.get 4
  let x := n.2.raw (n.1 : Int)
  (⟨strOf a.1, b.1, c.1, strOf d.1, x.1⟩, x.2)
theorem RSt.raw_on {S : RSt} {l r : List UInt8} (h : S.On (l ++ r)) : S.raw (l.length : Int) = (l, S.step l.length) ∧ (S.step l.length).On r := by
  obtain ⟨h0, hr⟩ := h
  refine ⟨?_, h0, ?_⟩
  · unfold RSt.raw
    rw [if_neg (by omega), if_neg (by omega), hr, if_neg (by simp only [List.length_append]; omega)]
    simp [RSt.step]
  · show S.bytes.drop (S.place + l.length) = r
    rw [← List.drop_drop]
    show S.rest.drop l.length = r
    rw [hr]
    exact List.drop_left
theorem strOf_data (s : ByteArray) : strOf s.data.toList = s := by simp [strOf]
theorem RSt.entry_on {S : RSt} {e : EntP} {r : List UInt8} (he : e.Fine) (h : S.On (e.enc ++ r)) : S.entry = (e, S.step e.size) ∧ (S.step e.size).On r := by
  obtain ⟨p1, p2⟩ := textErr_zero he.path
  obtain ⟨g1, g2⟩ := textErr_zero he.gid
  have hd := he.data
  unfold EntP.enc at h
  simp only [List.append_assoc] at h
  obtain ⟨a1, a2⟩ := RSt.text_on h p1 p2
  obtain ⟨b1, b2⟩ := RSt.get_on a2 (show e.mode < 256 ^ 4 from he.mode)
  obtain ⟨c1, c2⟩ := RSt.get_on b2 (show e.mtime < 256 ^ 4 from he.mtime)
  obtain ⟨d1, d2⟩ := RSt.text_on c2 g1 g2
  obtain ⟨n1, n2⟩ := RSt.get_on d2 (show e.data.length < 256 ^ 4 by omega)
  obtain ⟨x1, x2⟩ := RSt.raw_on n2
  have hz : ∀ (T : RSt), ((((((T.step (2 + e.path.data.toList.length)).step 4).step 4).step (2 + e.gid.data.toList.length)).step 4).step e.data.length) = T.step e.size := by
    intro T
    simp only [RSt.step, EntP.size, Array.length_toList, ByteArray.size_data]
    congr 1
    omega
  refine ⟨?_, by rw [hz] at x2; exact x2⟩
  unfold RSt.entry
  simp only [a1, b1, c1, d1, n1, x1, strOf_data, hz]
/-- So many entries, behind those. -/
def readN : Nat → List EntP → RSt → Option (List EntP)
  | 0, l, _ => some l
  | n + 1, l, S => if S.entry.2.err ≠ 0 then none else readN n (l ++ [S.entry.1]) S.entry.2
theorem readN_on : ∀ (l : List EntP) (a : List EntP) (S : RSt) (r : List UInt8), (∀ e ∈ l, e.Fine) → S.On (encL l ++ r) → readN l.length a S = some (a ++ l)
  | [], a, S, r, _, _ => by simp [readN]
  | e :: l, a, S, r, he, h => by
    have h' : S.On (e.enc ++ (encL l ++ r)) := by
      rw [← List.append_assoc]
      exact h
    obtain ⟨h1, h2⟩ := RSt.entry_on (he e (by simp)) h'
    show readN (l.length + 1) a S = _
    unfold readN
    rw [h1, if_neg (by rw [h2.err]; simp)]
    rw [readN_on l (a ++ [e]) _ r (fun x hx => he x (by simp [hx])) h2]
    simp
/-- What is read of bytes; none: it is broken. -/
def readD (b : List UInt8) : Option (List EntP) :=
  let a := (⟨b, 0, 0, 0, 0⟩ : RSt).raw 7
  if a.1 = headD then (let n := a.2.get 4; readN n.1 [] n.2) else none
theorem readD_on (l : List EntP) (r : List UInt8) (he : ∀ e ∈ l, e.Fine) (hl : l.length < 4294967296) : readD (bodyD l ++ r) = some l := by
  have h0 : (⟨bodyD l ++ r, 0, 0, 0, 0⟩ : RSt).On (headD ++ (le l.length 4 ++ (encL l ++ r))) := ⟨rfl, by simp [RSt.rest, bodyD]⟩
  obtain ⟨h1, h2⟩ := RSt.raw_on h0
  obtain ⟨h3, h4⟩ := RSt.get_on h2 (show l.length < 256 ^ 4 from hl)
  unfold readD
  have h1' : (⟨bodyD l ++ r, 0, 0, 0, 0⟩ : RSt).raw 7 = _ := h1
  simp only [h1', h3, if_true]
  rw [readN_on l [] _ r he h4]
  rfl
end Go.Proofs.YtmcekhgmmocajaaGreatDoor
namespace Go.Proofs.YtmcekhgmmocajaaGreatDoor

theorem mulS_inj {a b : Nat} (ha : a < 18446744073709551616) (hb : b < 18446744073709551616) (h : mulS a = mulS b) : a = b := by
  have key : ∀ x : Nat, x < 18446744073709551616 → (mulS x * 13132758862238501221) % 18446744073709551616 = x := by
    intro x hx
    unfold mulS
    rw [Nat.mod_mul_mod, Nat.mul_assoc, show 11800147728694460525 * 13132758862238501221 = 1 + 18446744073709551616 * 8400858928844686789 by decide, Nat.mul_add, Nat.mul_one, ← Nat.mul_assoc, Nat.mul_comm x 18446744073709551616, Nat.mul_assoc, Nat.add_mul_mod_self_left]
    exact Nat.mod_eq_of_lt hx
  rw [← key a ha, h, key b hb]
theorem xor_zero_eq {x z : Nat} (h : x ^^^ z = 0) : x = z := by
  have : (x ^^^ z) ^^^ z = 0 ^^^ z := by rw [h]
  rwa [Nat.xor_assoc, Nat.xor_self, Nat.xor_zero, Nat.zero_xor] at this
theorem shS_inj {x z : Nat} (h : shS x = shS z) : x = z := by
  unfold shS at h
  have h1 : (x ^^^ z) = (x ^^^ z) >>> 29 := by
    rw [Nat.shiftRight_xor_distrib]
    have : x ^^^ z ^^^ ((x >>> 29) ^^^ (z >>> 29)) = 0 := by
      have e : x ^^^ z ^^^ ((x >>> 29) ^^^ (z >>> 29)) = (x ^^^ (x >>> 29)) ^^^ (z ^^^ (z >>> 29)) := by
        rw [Nat.xor_assoc, Nat.xor_assoc]
        congr 1
        rw [← Nat.xor_assoc, Nat.xor_comm z, Nat.xor_assoc]
      rw [e, h, Nat.xor_self]
    exact xor_zero_eq this
  have h2 : (x ^^^ z) = 0 := by
    rw [Nat.shiftRight_eq_div_pow] at h1
    generalize x ^^^ z = d at h1
    omega
  exact xor_zero_eq h2
theorem xor_inj_left {a b n : Nat} (h : a ^^^ n = b ^^^ n) : a = b := by
  have : (a ^^^ n) ^^^ n = (b ^^^ n) ^^^ n := by rw [h]
  rwa [Nat.xor_assoc, Nat.xor_self, Nat.xor_zero, Nat.xor_assoc, Nat.xor_self, Nat.xor_zero] at this
theorem xor_lt64 {a b : Nat} (ha : a < 18446744073709551616) (hb : b < 18446744073709551616) : a ^^^ b < 18446744073709551616 := Nat.xor_lt_two_pow (n := 64) ha hb
theorem stepS_inj {h g n m : Nat} (hh : h < 18446744073709551616) (hg : g < 18446744073709551616) (hn : n < 18446744073709551616) (hm : m < 18446744073709551616) (e : stepS h n = stepS g m) : h ^^^ n = g ^^^ m := by
  have e1 : mulS (h ^^^ n) = mulS (g ^^^ m) := shS_inj e
  exact mulS_inj (xor_lt64 hh hn) (xor_lt64 hg hm) e1
theorem sumF_cons (b : UInt8) (l : List UInt8) (h : Nat) : sumF (b :: l) h = sumF l (stepS h (b.toNat + 1)) := by
  unfold sumF
  rw [List.foldl_cons]
theorem sumF_lt (l : List UInt8) {h : Nat} (hh : h < 18446744073709551616) : sumF l h < 18446744073709551616 := by
  induction l generalizing h with
  | nil => exact hh
  | cons b l ih => rw [sumF_cons]; exact ih (stepS_lt h (b.toNat + 1))
theorem byte_lt64 (b : UInt8) : b.toNat + 1 < 18446744073709551616 := by have := b.toNat_lt; omega
theorem sumF_inj : ∀ (l : List UInt8) {h g : Nat}, h < 18446744073709551616 → g < 18446744073709551616 → sumF l h = sumF l g → h = g
  | [], _, _, _, _, e => e
  | b :: l, h, g, hh, hg, e => by
    rw [sumF_cons, sumF_cons] at e
    have := sumF_inj l (stepS_lt h (b.toNat + 1)) (stepS_lt g (b.toNat + 1)) e
    exact xor_inj_left (stepS_inj hh hg (byte_lt64 b) (byte_lt64 b) this)
theorem sumF_append (a b : List UInt8) (h : Nat) : sumF (a ++ b) h = sumF b (sumF a h) := by simp [sumF]
/-- One byte turned: another sum. -/
theorem sumD_turned (a c : List UInt8) (x y : UInt8) (h : sumD (a ++ x :: c) = sumD (a ++ y :: c)) (hl : (a ++ x :: c).length < 18446744073709551616) : x = y := by
  unfold sumD at h
  have s0 : (7880330927811272263 : Nat) < 18446744073709551616 := by decide
  have h1 := xor_inj_left (stepS_inj (stepS_lt _ _) (stepS_lt _ _) (by omega) (by omega) h)
  have el : (a ++ y :: c).length = (a ++ x :: c).length := by simp
  rw [el] at h1
  have h2 := xor_inj_left (stepS_inj (sumF_lt _ s0) (sumF_lt _ s0) hl hl h1)
  rw [sumF_append, sumF_append] at h2
  rw [sumF_cons, sumF_cons] at h2
  have h3 := sumF_inj c (stepS_lt _ _) (stepS_lt _ _) h2
  have h4 := stepS_inj (sumF_lt a s0) (sumF_lt a s0) (byte_lt64 x) (byte_lt64 y) h3
  rw [Nat.xor_comm, Nat.xor_comm (sumF a _)] at h4
  have h5 := xor_inj_left h4
  exact UInt8.toNat_inj.1 (by omega)
def Sound (l : List EntP) : Prop := (∀ e ∈ l, e.Fine) ∧ l.length < 4294967296
/-- Of two dumps' bytes that begin with one another's bodies the lists are one. -/
theorem same_body {l m : List EntP} (hl : Sound l) (hm : Sound m) {r s : List UInt8} (h : bodyD l ++ r = bodyD m ++ s) : l = m := by
  have h1 := readD_on l r hl.1 hl.2
  rw [h, readD_on m s hm.1 hm.2] at h1
  exact (Option.some.inj h1).symm
theorem not_shorter {l m : List EntP} (hl : Sound l) (hm : Sound m) (h : fullD m = (fullD l).take ((fullD l).length - 1)) : False := by
  have e : l = m := by
    refine same_body hl hm (r := le (sumD (bodyD l)) 8) (s := le (sumD (bodyD m)) 8 ++ (fullD l).drop ((fullD l).length - 1)) ?_
    rw [← List.append_assoc]
    show fullD l = fullD m ++ _
    rw [h, List.take_append_drop]
  subst e
  have := congrArg List.length h
  rw [List.length_take, fullD_length] at this
  omega
theorem not_longer {l m : List EntP} (hl : Sound l) (hm : Sound m) {x : UInt8} (h : fullD m = fullD l ++ [x]) : False := by
  have e : l = m := by
    refine same_body hl hm (r := le (sumD (bodyD l)) 8 ++ [x]) (s := le (sumD (bodyD m)) 8) ?_
    rw [← List.append_assoc]
    exact h.symm
  subst e
  have := congrArg List.length h
  simp at this
theorem not_turned {l m : List EntP} {k : Nat} {x : UInt8} (hk : k < (fullD l).length) (hlen : (fullD l).length < 18446744073709551616) (h : fullD m = (fullD l).set k x) (hx : (fullD l)[k]? ≠ some x) : False := by
  have e1 := congrArg List.length h
  rw [List.length_set, fullD_length, fullD_length] at e1
  have eb : (bodyD m).length = (bodyD l).length := by rw [bodyD_length, bodyD_length]; omega
  rcases Nat.lt_or_ge k (bodyD l).length with hlt | hge
  · unfold fullD at h hx
    rw [List.set_append_left _ _ hlt] at h
    rw [List.getElem?_append_left hlt] at hx
    have h1 := List.append_inj h (by rw [List.length_set]; exact eb)
    have hd : bodyD l = (bodyD l).take k ++ (bodyD l)[k] :: (bodyD l).drop (k + 1) := by
      rw [← List.drop_eq_getElem_cons hlt, List.take_append_drop]
    have hs : (bodyD l).set k x = (bodyD l).take k ++ x :: (bodyD l).drop (k + 1) := by
      rw [List.set_eq_take_append_cons_drop, if_pos hlt]
    have h2 := congrArg val h1.2
    rw [val_le_of (sumD_lt _), val_le_of (sumD_lt _), h1.1, hs] at h2
    rw [hd] at h2
    have hz : ((bodyD l).take k ++ x :: (bodyD l).drop (k + 1)).length < 18446744073709551616 := by
      rw [← hs, List.length_set]
      have := fullD_length l
      have := bodyD_length l
      omega
    have h3 := sumD_turned _ _ _ _ (by
      rw [← hd]
      rw [← hd] at h2
      exact h2) hz
    rw [List.getElem?_eq_getElem hlt] at hx
    exact hx (by rw [← h3])
  · unfold fullD at h hx
    rw [List.set_append_right _ _ hge] at h
    rw [List.getElem?_append_right hge] at hx
    have h1 := List.append_inj h eb
    have h2 := h1.2
    rw [h1.1] at h2
    have hk2 : k - (bodyD l).length < (le (sumD (bodyD l)) 8).length := by
      rw [le_length]
      rw [fullD_length] at hk
      rw [bodyD_length]
      omega
    apply hx
    have h3 := congrArg (·[k - (bodyD l).length]?) h2
    simp only [List.getElem?_set_self hk2] at h3
    exact h3
end Go.Proofs.YtmcekhgmmocajaaGreatDoor
namespace Go.Proofs.YtmcekhgmmocajaaGreatDoor
open Go.RowKit

theorem and_mask (n k j : Nat) : n &&& ((2 ^ j - 1) * 2 ^ k) = (n / 2 ^ k % 2 ^ j) * 2 ^ k := by
  apply Nat.eq_of_testBit_eq
  intro i
  rw [Nat.testBit_and, Nat.testBit_mul_two_pow, Nat.testBit_mul_two_pow, Nat.testBit_two_pow_sub_one, Nat.testBit_mod_two_pow, Nat.testBit_div_two_pow]
  by_cases h : k ≤ i
  · rw [show i - k + k = i by omega]
    simp [h, Bool.and_comm]
  · simp [h]
def sub1 (m b : Nat) : Nat := if b ≤ m then m - b else m
def bitsRest (m : Nat) : Nat := sub1 (sub1 (sub1 (sub1 m 2147483648) 1073741824) 536870912) 67108864
theorem and_rest (m : Nat) : m &&& 469761536 = (m / 134217728 % 4) * 134217728 + (m / 512 % 131072) * 512 := by
  have e : (469761536 : Nat) = (2 ^ 2 - 1) * 2 ^ 27 ||| (2 ^ 17 - 1) * 2 ^ 9 := by decide
  rw [e, Nat.and_or_distrib_left, and_mask, and_mask]
  have h : (m / 2 ^ 9 % 2 ^ 17) * 2 ^ 9 < 2 ^ 27 := by omega
  rw [Nat.or_comm, Nat.mul_comm (m / 2 ^ 27 % 2 ^ 2), Nat.or_comm, ← Nat.two_pow_add_eq_or_of_lt h]
theorem rest_iff (m : Nat) (h : m < 4294967296) : (m &&& 469761536 = 0) ↔ bitsRest m < 512 := by
  rw [and_rest]
  unfold bitsRest sub1
  constructor
  · intro h0
    repeat' split
    all_goals omega
  · repeat' split
    all_goals omega
theorem and_two (m : Nat) : m &&& 1610612736 = (m / 536870912 % 4) * 536870912 := and_mask m 29 2
theorem two_iff (m : Nat) : (m &&& 1610612736 ≠ 0) ↔ (m / 1073741824 % 2 = 1 ∨ m / 536870912 % 2 = 1) := by
  rw [and_two]
  omega
theorem and_dir (m : Nat) (h : m < 4294967296) : (m &&& 2147483648 ≠ 0) ↔ 2147483648 ≤ m := by
  have := and_mask m 31 1
  rw [show (2147483648 : Nat) = (2 ^ 1 - 1) * 2 ^ 31 by decide, this]
  omega
theorem bits_and (m K : Nat) (h : m < 4294967296) (hK : K < 4294967296) : (bits .and .u32 (m : Int) (K : Int) != 0) = decide (m &&& K ≠ 0) := by
  rw [u32_and_nat m K h hK]
  by_cases h0 : m &&& K = 0 <;> simp [h0]
theorem bits_andNot (m : Nat) (h : m < 4294967296) : (bits .andNot .u32 (m : Int) 3825205759 != 0) = decide (512 ≤ bitsRest m) := by
  rw [show (3825205759 : Int) = ((3825205759 : Nat) : Int) from rfl, u32_andNot_nat m _ h (by omega)]
  have := rest_iff m h
  show (((m &&& 469761536 : Nat) : Int) != 0) = _
  by_cases h0 : m &&& 469761536 = 0
  · have := this.1 h0
    rw [h0]
    simp
    omega
  · have hh : ¬ bitsRest m < 512 := fun hc => h0 (this.2 hc)
    have e : (((m &&& 469761536 : Nat) : Int) != 0) = true := bne_iff_ne.2 (by omega)
    rw [e]
    simp
    omega
def isDirN (m : Nat) : Bool := decide (2147483648 ≤ m)
theorem bits_dir (m : Nat) (h : m < 4294967296) : (bits .and .u32 (m : Int) 2147483648 != 0) = isDirN m := by
  have := bits_and m 2147483648 h (by omega)
  rw [show ((2147483648 : Nat) : Int) = 2147483648 from rfl] at this
  rw [this]
  exact decide_eq_decide.2 (and_dir m h)
/-- Append-only, or for one user at a time. -/
def twoN (m : Nat) : Bool := decide (m / 1073741824 % 2 = 1 ∨ m / 536870912 % 2 = 1)
theorem bits_two (m : Nat) (h : m < 4294967296) : (bits .and .u32 (m : Int) 1610612736 != 0) = twoN m := by
  have := bits_and m 1610612736 h (by omega)
  rw [show ((1610612736 : Nat) : Int) = 1610612736 from rfl] at this
  rw [this]
  exact decide_eq_decide.2 (two_iff m)
end Go.Proofs.YtmcekhgmmocajaaGreatDoor
