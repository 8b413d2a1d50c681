/- The plain law of modes as texts: what is written of a number is read as that number. Over lists of bytes and natural numbers; no program. | The document's Mode and ParseMode, plainly: they are what modeL and parse say. No program. -/
namespace Go.Proofs.YtnpokdbpmnkbjaaGreatDoor.Mo.Pl

/-- A letter, where a bit is set, else a dash. -/
def lt (b : Bool) (c : UInt8) : UInt8 := if b then c else 45

/-- The thirteen letters behind k rounds of the first loop and j of the second. -/
def cellsL (n k j : Nat) : List UInt8 :=
  [lt (decide (0 < k) && n.testBit 31) 100, lt (decide (1 < k) && n.testBit 30) 97, lt (decide (2 < k) && n.testBit 29) 108, lt (decide (3 < k) && n.testBit 26) 116,
   lt (decide (0 < j) && n.testBit 8) 114, lt (decide (1 < j) && n.testBit 7) 119, lt (decide (2 < j) && n.testBit 6) 120,
   lt (decide (3 < j) && n.testBit 5) 114, lt (decide (4 < j) && n.testBit 4) 119, lt (decide (5 < j) && n.testBit 3) 120,
   lt (decide (6 < j) && n.testBit 2) 114, lt (decide (7 < j) && n.testBit 1) 119, lt (decide (8 < j) && n.testBit 0) 120]

def baseL (n : Nat) : List UInt8 := cellsL n 4 9

theorem baseL_length (n : Nat) : (baseL n).length = 13 := rfl

def restOf (n : Nat) : Nat := n &&& 469761536

def hexc (d : Nat) : UInt8 := [48, 49, 50, 51, 52, 53, 54, 55, 56, 57, 97, 98, 99, 100, 101, 102].getD d 48

/-- The hexadecimal digits behind t rounds of the third loop. -/
def hexD (r : Nat) : Nat → List UInt8
  | 0 => []
  | t + 1 => hexD r t ++ (if r / 2 ^ (28 - 4 * t) = 0 then [] else [hexc (r / 2 ^ (28 - 4 * t) % 16)])

theorem hexD_len (r : Nat) : ∀ t, (hexD r t).length ≤ t
  | 0 => by simp [hexD]
  | t + 1 => by
    have := hexD_len r t
    simp only [hexD, List.length_append]
    split <;> simp <;> omega

def modeL (n : Nat) : List UInt8 := if restOf n = 0 then baseL n else baseL n ++ [43] ++ hexD (restOf n) 8

/-- A digit's value, as the reader reckons it. -/
def hexv (c : UInt8) : Nat := if 48 ≤ c.toNat ∧ c.toNat ≤ 57 then c.toNat - 48 else (c.toNat + 159) % 256 + 10

theorem hexv_hexc : ∀ d, d < 16 → hexv (hexc d) % 16 = d := by decide

def foldR (l : List UInt8) : Nat := l.foldl (fun r c => r * 16 % 4294967296 ||| hexv c % 16) 0

theorem foldR_snoc (l : List UInt8) (c : UInt8) : foldR (l ++ [c]) = (foldR l * 16 % 4294967296 ||| hexv c % 16) := by simp [foldR]

theorem foldR_lt : ∀ l : List UInt8, foldR l < 4294967296 := by
  intro l
  rcases List.eq_nil_or_concat l with rfl | ⟨l', c, rfl⟩
  · simp [foldR]
  · rw [List.concat_eq_append, foldR_snoc]
    exact Nat.or_lt_two_pow (n := 32) (Nat.mod_lt _ (by omega)) (by have := Nat.mod_lt (hexv c) (show 0 < 16 by omega); omega)

theorem or_low (x d : Nat) (hd : d < 16) : (x * 16 ||| d) = x * 16 + d := by
  have := Nat.two_pow_add_eq_or_of_lt (i := 4) (b := d) (by omega) x
  rw [show x * 16 = 2 ^ 4 * x by omega]
  exact this.symm

theorem foldR_hexD (r : Nat) (hr : r < 4294967296) : ∀ t, t ≤ 8 → foldR (hexD r t) = r / 2 ^ (32 - 4 * t)
  | 0, _ => by
    simp only [hexD, foldR, List.foldl_nil]
    rw [Nat.div_eq_of_lt (by simpa using hr)]
  | t + 1, ht => by
    have ih := foldR_hexD r hr t (by omega)
    have e1 : 2 ^ (32 - 4 * t) = 2 ^ (28 - 4 * t) * 16 := by
      rw [show 32 - 4 * t = (28 - 4 * t) + 4 by omega, Nat.pow_add]
    have e2 : 32 - 4 * (t + 1) = 28 - 4 * t := by omega
    rw [e1, ← Nat.div_div_eq_div_mul] at ih
    rw [e2]
    simp only [hexD]
    split
    · rename_i h0
      rw [List.append_nil, ih, h0]
    · rw [foldR_snoc, ih, hexv_hexc _ (Nat.mod_lt _ (by omega))]
      generalize hq : r / 2 ^ (28 - 4 * t) = q
      have hql : q ≤ r := by rw [← hq]; exact Nat.div_le_self _ _
      rw [Nat.mod_eq_of_lt (by omega), or_low _ _ (by omega)]
      omega

/-- The bits read off the first four letters behind k rounds. -/
def kindsR (t : List UInt8) : Nat → Nat
  | 0 => 0
  | k + 1 => if t.getD k 45 = 45 then kindsR t k else kindsR t k ||| [2147483648, 1073741824, 536870912, 67108864].getD k 0

/-- .. and off the nine behind them, on top of m. -/
def rightsR (t : List UInt8) (m : Nat) : Nat → Nat
  | 0 => m
  | j + 1 => if t.getD (4 + j) 45 = 45 then rightsR t m j else rightsR t m j ||| 2 ^ (8 - j)

/-- The number that the reader reckons, ahead of its last test. -/
def numR (t : List UInt8) : Nat :=
  if 14 < t.length then rightsR t (kindsR t 4) 9 ||| (foldR (t.drop 14) &&& 469761536) else rightsR t (kindsR t 4) 9

/-- What ParseMode answers: the number, the error. -/
def parse (t : List UInt8) : Nat × Nat :=
  if t.length < 13 ∨ 22 < t.length then (0, 21) else if modeL (numR t) = t then (numR t, 0) else (0, 21)

theorem modeL_length (n : Nat) : 13 ≤ (modeL n).length ∧ (modeL n).length ≤ 22 := by
  unfold modeL
  split
  · simp [baseL_length]
  · have := hexD_len (restOf n) 8
    simp only [List.length_append, baseL_length, List.length_cons, List.length_nil]
    omega

theorem modeL_getD (n i : Nat) (h : i < 13) : (modeL n).getD i 45 = (baseL n).getD i 45 := by
  unfold modeL
  split
  · rfl
  · rw [List.append_assoc]
    simp only [List.getD_eq_getElem?_getD]
    rw [List.getElem?_append_left (by rw [baseL_length]; exact h)]

theorem lt_dash (b : Bool) (c : UInt8) (hc : c ≠ 45) : (lt b c = 45) ↔ b = false := by
  cases b <;> simp [lt, hc]

theorem ite_or (b : Bool) (x y : Nat) : (if b = false then x else x ||| y) = x ||| (if b then y else 0) := by
  cases b <;> simp

theorem base_bits (n : Nat) (hn : n < 4294967296) : rightsR (modeL n) (kindsR (modeL n) 4) 9 = n &&& 3825205759 := by
  simp only [rightsR, kindsR, modeL_getD n _ (by omega : (0:Nat) < 13), modeL_getD n _ (by omega : (1:Nat) < 13), modeL_getD n _ (by omega : (2:Nat) < 13), modeL_getD n _ (by omega : (3:Nat) < 13),
    modeL_getD n _ (by omega : (4 + 0:Nat) < 13), modeL_getD n _ (by omega : (4 + 1:Nat) < 13), modeL_getD n _ (by omega : (4 + 2:Nat) < 13), modeL_getD n _ (by omega : (4 + 3:Nat) < 13), modeL_getD n _ (by omega : (4 + 4:Nat) < 13),
    modeL_getD n _ (by omega : (4 + 5:Nat) < 13), modeL_getD n _ (by omega : (4 + 6:Nat) < 13), modeL_getD n _ (by omega : (4 + 7:Nat) < 13), modeL_getD n _ (by omega : (4 + 8:Nat) < 13)]
  simp only [baseL, cellsL, List.getD_cons_zero, List.getD_cons_succ, Nat.reduceAdd, decide_true, Bool.true_and, Nat.reduceLT,
    lt_dash _ 100 (by decide), lt_dash _ 97 (by decide), lt_dash _ 108 (by decide), lt_dash _ 116 (by decide), lt_dash _ 114 (by decide), lt_dash _ 119 (by decide), lt_dash _ 120 (by decide), ite_or]
  apply Nat.eq_of_testBit_eq
  intro i
  have hb : ∀ (b : Bool) (p : Nat), (if b = true then 2 ^ p else 0).testBit i = (b && decide (p = i)) := by
    intro b p
    cases b <;> simp [Nat.testBit_two_pow]
  have q31 := hb (n.testBit 31) 31
  have q30 := hb (n.testBit 30) 30
  have q29 := hb (n.testBit 29) 29
  have q26 := hb (n.testBit 26) 26
  have q8 := hb (n.testBit 8) 8
  have q7 := hb (n.testBit 7) 7
  have q6 := hb (n.testBit 6) 6
  have q5 := hb (n.testBit 5) 5
  have q4 := hb (n.testBit 4) 4
  have q3 := hb (n.testBit 3) 3
  have q2 := hb (n.testBit 2) 2
  have q1 := hb (n.testBit 1) 1
  have q0 := hb (n.testBit 0) 0
  simp only [Nat.reducePow] at q31 q30 q29 q26 q8 q7 q6 q5 q4 q3 q2 q1 q0
  simp only [Nat.testBit_or, Nat.testBit_and, Nat.zero_testBit, Bool.false_or, Nat.reduceSub, Nat.reducePow, q31, q30, q29, q26, q8, q7, q6, q5, q4, q3, q2, q1, q0]
  clear q31 q30 q29 q26 q8 q7 q6 q5 q4 q3 q2 q1 q0 hb
  by_cases hi : i < 32
  · have : ∀ i, i < 32 → (n.testBit 31 && decide (31 = i) || n.testBit 30 && decide (30 = i) || n.testBit 29 && decide (29 = i) || n.testBit 26 && decide (26 = i) || n.testBit 8 && decide (8 = i) || n.testBit 7 && decide (7 = i) || n.testBit 6 && decide (6 = i) || n.testBit 5 && decide (5 = i) || n.testBit 4 && decide (4 = i) || n.testBit 3 && decide (3 = i) || n.testBit 2 && decide (2 = i) || n.testBit 1 && decide (1 = i) || n.testBit 0 && decide (0 = i)) = (n.testBit i && Nat.testBit 3825205759 i) := by
      intro i hi
      rcases (show i = 0 ∨ i = 1 ∨ i = 2 ∨ i = 3 ∨ i = 4 ∨ i = 5 ∨ i = 6 ∨ i = 7 ∨ i = 8 ∨ i = 9 ∨ i = 10 ∨ i = 11 ∨ i = 12 ∨ i = 13 ∨ i = 14 ∨ i = 15 ∨ i = 16 ∨ i = 17 ∨ i = 18 ∨ i = 19 ∨ i = 20 ∨ i = 21 ∨ i = 22 ∨ i = 23 ∨ i = 24 ∨ i = 25 ∨ i = 26 ∨ i = 27 ∨ i = 28 ∨ i = 29 ∨ i = 30 ∨ i = 31 by omega) with rfl | rfl | rfl | rfl | rfl | rfl | rfl | rfl | rfl | rfl | rfl | rfl | rfl | rfl | rfl | rfl | rfl | rfl | rfl | rfl | rfl | rfl | rfl | rfl | rfl | rfl | rfl | rfl | rfl | rfl | rfl | rfl
      all_goals simp (decide := true)
    exact this i hi
  · have hz : n.testBit i = false := Nat.testBit_lt_two_pow (Nat.lt_of_lt_of_le hn (by
      have : 2 ^ 32 ≤ 2 ^ i := Nat.pow_le_pow_right (by omega) (by omega)
      simpa using this))
    have d : ∀ p, p < 32 → decide (p = i) = false := fun p hp => by simp; omega
    simp [hz, d 31 (by omega), d 30 (by omega), d 29 (by omega), d 26 (by omega), d 8 (by omega), d 7 (by omega), d 6 (by omega), d 5 (by omega), d 4 (by omega), d 3 (by omega), d 2 (by omega), d 1 (by omega), d 0 (by omega)]

theorem hexD_ne (r : Nat) (h : r ≠ 0) : 0 < (hexD r 8).length := by
  have : hexD r 8 = hexD r 7 ++ (if r / 2 ^ (28 - 4 * 7) = 0 then [] else [hexc (r / 2 ^ (28 - 4 * 7) % 16)]) := rfl
  rw [this]
  simp [h]

theorem restOf_lt (n : Nat) : restOf n < 4294967296 := Nat.lt_of_le_of_lt Nat.and_le_right (by omega)

theorem numR_modeL (n : Nat) (hn : n < 4294967296) : numR (modeL n) = n := by
  have hj : ∀ x y : Nat, (n &&& x) ||| (n &&& y) = n &&& (x ||| y) := fun x y => (Nat.and_or_distrib_left ..).symm
  have hall : n &&& 4294967295 = n := by
    have := Nat.and_two_pow_sub_one_eq_mod n 32
    simp only [Nat.reducePow, Nat.reduceSub] at this
    rw [this, Nat.mod_eq_of_lt hn]
  unfold numR
  rw [base_bits n hn]
  by_cases h0 : restOf n = 0
  · have hl : (modeL n).length = 13 := by simp [modeL, h0, baseL_length]
    rw [if_neg (by omega)]
    have h1 : (n &&& 3825205759) ||| restOf n = n := by
      unfold restOf
      rw [hj]
      exact hall
    rw [h0, Nat.or_zero] at h1
    exact h1
  · have hm : modeL n = (baseL n ++ [43]) ++ hexD (restOf n) 8 := by simp [modeL, h0]
    have hp := hexD_ne (restOf n) h0
    have hl : (baseL n ++ [43]).length = 14 := by simp [baseL_length]
    have hd : (modeL n).drop 14 = hexD (restOf n) 8 := by rw [hm, List.drop_left' hl]
    rw [if_pos (by rw [hm, List.length_append, hl]; omega), hd, foldR_hexD _ (restOf_lt n) 8 (by omega)]
    simp only [Nat.reduceMul, Nat.sub_self, Nat.pow_zero, Nat.div_one]
    unfold restOf
    rw [Nat.and_assoc, Nat.and_self, hj]
    exact hall

theorem parse_modeL (n : Nat) (hn : n < 4294967296) : parse (modeL n) = (n, 0) := by
  have := modeL_length n
  unfold parse
  rw [if_neg (by omega), numR_modeL n hn, if_pos rfl]

theorem modeL_inj (n m : Nat) (hn : n < 4294967296) (hm : m < 4294967296) (h : modeL n = modeL m) : n = m := by
  have h1 := parse_modeL n hn
  rw [h, parse_modeL m hm] at h1
  exact (Prod.mk.inj h1).1.symm

theorem numR_lt (t : List UInt8) : numR t < 4294967296 := by
  have k4 : kindsR t 4 < 4294967296 := by
    simp only [kindsR]
    repeat' split
    all_goals first | exact Nat.zero_lt_succ _ | (repeat' (refine Nat.or_lt_two_pow (n := 32) ?_ ?_)) <;> simp
  have rj : ∀ j, rightsR t (kindsR t 4) j < 4294967296 := by
    intro j
    induction j with
    | zero => exact k4
    | succ j ih =>
      simp only [rightsR]
      split
      · exact ih
      · exact Nat.or_lt_two_pow (n := 32) ih (Nat.pow_lt_pow_right (by omega) (by omega))
  unfold numR
  split
  · exact Nat.or_lt_two_pow (n := 32) (rj 9) (Nat.lt_of_le_of_lt Nat.and_le_right (by omega))
  · exact rj 9

theorem parse_ok (t : List UInt8) (h : (parse t).2 = 0) : modeL (parse t).1 = t ∧ (parse t).1 < 4294967296 := by
  unfold parse at h ⊢
  split at h
  · cases h
  · rename_i h1
    rw [if_neg h1]
    split at h
    · rename_i h2
      rw [if_pos h2]
      exact ⟨h2, numR_lt t⟩
    · cases h

theorem parse_bad (t : List UInt8) (h : (parse t).2 ≠ 0) : parse t = (0, 21) := by
  unfold parse at h ⊢
  split
  · rfl
  · rename_i h1
    rw [if_neg h1] at h
    split
    · rename_i h2
      rw [if_pos h2] at h
      exact absurd rfl h
    · rfl

end Go.Proofs.YtnpokdbpmnkbjaaGreatDoor.Mo.Pl
namespace Go.Proofs.YtnpokdbpmnkbjaaGreatDoor.Mo.Pl

theorem or_add : ∀ (x y : Nat), x &&& y = 0 → x ||| y = x + y
  | 0, y, _ => by simp
  | x + 1, y, h => by
    have h1 : (x + 1) / 2 &&& y / 2 = 0 := by rw [← Nat.and_div_two, h]
    have ih := or_add ((x + 1) / 2) (y / 2) h1
    have d : ((x + 1) ||| y) / 2 = (x + 1) / 2 + y / 2 := by rw [Nat.or_div_two, ih]
    have m1 := Nat.or_mod_two_eq_one (a := x + 1) (b := y)
    have m2 := Nat.and_mod_two_eq_one (a := x + 1) (b := y)
    rw [h] at m2
    omega
termination_by x => x
def posL : List Nat := [31, 30, 29, 26, 8, 7, 6, 5, 4, 3, 2, 1, 0]
def wordL : List UInt8 := [100, 97, 108, 116, 114, 119, 120, 114, 119, 120, 114, 119, 120]
/-- What is left of all bits behind so many letters; what is told by them. -/
def maskL : List Nat := [4294967295, 2147483647, 1073741823, 536870911, 469762047, 469761791, 469761663, 469761599, 469761567, 469761551, 469761543, 469761539, 469761537, 469761536]
def sawL : List Nat := [0, 2147483648, 3221225472, 3758096384, 3825205248, 3825205504, 3825205632, 3825205696, 3825205728, 3825205744, 3825205752, 3825205756, 3825205758, 3825205759]
theorem and_bit (n M p : Nat) (h : M &&& 2 ^ p = 0) : n &&& (M + 2 ^ p) = (n &&& M) + (if n.testBit p then 2 ^ p else 0) := by
  rw [← or_add M (2 ^ p) h, Nat.and_or_distrib_left]
  have e : n &&& 2 ^ p = if n.testBit p then 2 ^ p else 0 := by
    refine Nat.eq_of_testBit_eq fun i => ?_
    rw [Nat.testBit_and, Nat.testBit_two_pow]
    by_cases hi : p = i
    · subst hi
      cases hb : n.testBit p <;> simp
    · cases hb : n.testBit p <;> simp [hi]
  rw [e]
  refine or_add _ _ ?_
  cases n.testBit p
  · simp
  · simp only [if_true]
    rw [Nat.and_assoc, h, Nat.and_zero]
structure StepL (n k p q : Nat) (c : UInt8) : Prop where
  pl : p < 32
  bit : q = 2 ^ p
  word : wordL[k]? = some c
  base : (baseL n).take (k + 1) = (baseL n).take k ++ [lt (n.testBit p) c]
  rest : n &&& maskL.getD k 0 = (n &&& maskL.getD (k + 1) 0) + (if n.testBit p then q else 0)
  saw : n &&& sawL.getD (k + 1) 0 = (n &&& sawL.getD k 0) + (if n.testBit p then q else 0)
  at' : (baseL n).getD k 45 = lt (n.testBit p) c
  dash : c ≠ 45
  small : sawL.getD k 0 + q ≤ 4294967295
theorem tabL (k : Nat) (hk : k < 13) : posL.getD k 0 < 32 ∧ wordL[k]? = some (wordL.getD k 0) ∧ wordL.getD k 0 ≠ 45 ∧ sawL.getD k 0 + 2 ^ posL.getD k 0 ≤ 4294967295 ∧
    maskL.getD k 0 = maskL.getD (k + 1) 0 + 2 ^ posL.getD k 0 ∧ maskL.getD (k + 1) 0 &&& 2 ^ posL.getD k 0 = 0 ∧ sawL.getD (k + 1) 0 = sawL.getD k 0 + 2 ^ posL.getD k 0 ∧ sawL.getD k 0 &&& 2 ^ posL.getD k 0 = 0 := by
  rcases (show k = 0 ∨ k = 1 ∨ k = 2 ∨ k = 3 ∨ k = 4 ∨ k = 5 ∨ k = 6 ∨ k = 7 ∨ k = 8 ∨ k = 9 ∨ k = 10 ∨ k = 11 ∨ k = 12 by omega) with rfl | rfl | rfl | rfl | rfl | rfl | rfl | rfl | rfl | rfl | rfl | rfl | rfl <;> decide
theorem stepL (n k : Nat) (hk : k < 13) : StepL n k (posL.getD k 0) (2 ^ posL.getD k 0) (wordL.getD k 0) := by
  obtain ⟨h1, h2, h3, h4, h5, h6, h7, h8⟩ := tabL k hk
  refine ⟨h1, rfl, h2, ?_, by rw [h5]; exact and_bit n _ _ h6, by rw [h7]; exact and_bit n _ _ h8, ?_, h3, h4⟩
  · clear h1 h2 h3 h4 h5 h6 h7 h8
    rcases (show k = 0 ∨ k = 1 ∨ k = 2 ∨ k = 3 ∨ k = 4 ∨ k = 5 ∨ k = 6 ∨ k = 7 ∨ k = 8 ∨ k = 9 ∨ k = 10 ∨ k = 11 ∨ k = 12 by omega) with rfl | rfl | rfl | rfl | rfl | rfl | rfl | rfl | rfl | rfl | rfl | rfl | rfl <;> simp [baseL, cellsL, posL, wordL]
  · clear h1 h2 h3 h4 h5 h6 h7 h8
    rcases (show k = 0 ∨ k = 1 ∨ k = 2 ∨ k = 3 ∨ k = 4 ∨ k = 5 ∨ k = 6 ∨ k = 7 ∨ k = 8 ∨ k = 9 ∨ k = 10 ∨ k = 11 ∨ k = 12 by omega) with rfl | rfl | rfl | rfl | rfl | rfl | rfl | rfl | rfl | rfl | rfl | rfl | rfl <;> simp [baseL, cellsL, posL, wordL]
theorem rest_all (n : Nat) (hn : n < 4294967296) : n &&& maskL.getD 0 0 = n := by
  have := Nat.and_two_pow_sub_one_eq_mod n 32
  simp only [Nat.reducePow, Nat.reduceSub] at this
  show n &&& 4294967295 = n
  rw [this, Nat.mod_eq_of_lt hn]
theorem rest_end (n : Nat) : n &&& maskL.getD 13 0 = restOf n := rfl
theorem saw_none (n : Nat) : n &&& sawL.getD 0 0 = 0 := Nat.and_zero n
def hexw (c : UInt8) : Nat := if 97 ≤ c.toNat ∧ c.toNat ≤ 102 then c.toNat - 97 + 10 else if 48 ≤ c.toNat ∧ c.toNat ≤ 57 then c.toNat - 48 else 0
theorem hexw_hexc : ∀ d, d < 16 → hexw (hexc d) = d := by decide
def foldX (l : List UInt8) : Nat := l.foldl (fun r c => (r * 16 + hexw c) % 4294967296) 0
theorem foldX_snoc (l : List UInt8) (c : UInt8) : foldX (l ++ [c]) = (foldX l * 16 + hexw c) % 4294967296 := by simp [foldX]
theorem foldX_lt : ∀ l : List UInt8, foldX l < 4294967296 := by
  intro l
  rcases List.eq_nil_or_concat l with rfl | ⟨l', c, rfl⟩
  · simp [foldX]
  · rw [List.concat_eq_append, foldX_snoc]
    exact Nat.mod_lt _ (by omega)
theorem foldX_hexD (r : Nat) (hr : r < 4294967296) : ∀ t, t ≤ 8 → foldX (hexD r t) = r / 2 ^ (32 - 4 * t)
  | 0, _ => by
    simp only [hexD, foldX, List.foldl_nil]
    rw [Nat.div_eq_of_lt (by simpa using hr)]
  | t + 1, ht => by
    have ih := foldX_hexD r hr t (by omega)
    have e1 : 2 ^ (32 - 4 * t) = 2 ^ (28 - 4 * t) * 16 := by
      rw [show 32 - 4 * t = (28 - 4 * t) + 4 by omega, Nat.pow_add]
    have e2 : 32 - 4 * (t + 1) = 28 - 4 * t := by omega
    rw [e1, ← Nat.div_div_eq_div_mul] at ih
    rw [e2]
    simp only [hexD]
    split
    · rename_i h0
      rw [List.append_nil, ih, h0]
    · rw [foldX_snoc, ih, hexw_hexc _ (Nat.mod_lt _ (by omega))]
      generalize hq : r / 2 ^ (28 - 4 * t) = q
      have hql : q ≤ r := by rw [← hq]; exact Nat.div_le_self _ _
      omega
/-- The number that the document's ParseMode reckons. -/
def sumX (t : List UInt8) : Nat → Nat
  | 0 => 0
  | k + 1 => sumX t k + (if t.getD k 45 = wordL.getD k 0 then 2 ^ posL.getD k 0 else 0)
def numX (t : List UInt8) : Nat := sumX t 13 ||| foldX (t.drop 14)
theorem sumX_le (t : List UInt8) : ∀ k, k ≤ 13 → sumX t k ≤ sawL.getD k 0
  | 0, _ => by simp [sumX]
  | k + 1, hk => by
    have ih := sumX_le t k (by omega)
    have e := (tabL k (by omega)).2.2.2.2.2.2.1
    simp only [sumX]
    generalize 2 ^ posL.getD k 0 = q at *
    split <;> omega
theorem numX_lt (t : List UInt8) : numX t < 4294967296 := by
  have h := sumX_le t 13 (by omega)
  have h2 : sawL.getD 13 0 = 3825205759 := rfl
  exact Nat.or_lt_two_pow (n := 32) (by omega) (foldX_lt _)
theorem sumX_modeL (n : Nat) : ∀ k, k ≤ 13 → sumX (modeL n) k = n &&& sawL.getD k 0
  | 0, _ => (saw_none n).symm
  | k + 1, hk => by
    have s := stepL n k (by omega)
    simp only [sumX]
    rw [sumX_modeL n k (by omega), s.saw, modeL_getD n k (by omega), s.at']
    congr 1
    cases n.testBit (posL.getD k 0)
    · have hne : ¬ (45 : UInt8) = wordL.getD k 0 := fun h => s.dash h.symm
      simp only [lt, Bool.false_eq_true, if_false]
      rw [if_neg hne]
    · simp [lt]
theorem numX_modeL (n : Nat) (hn : n < 4294967296) : numX (modeL n) = n := by
  have hall : n &&& 4294967295 = n := rest_all n hn
  have h1 := sumX_modeL n 13 (by omega)
  have h2 : sawL.getD 13 0 = 3825205759 := rfl
  rw [h2] at h1
  have hjoin : (n &&& 3825205759) ||| restOf n = n := by
    unfold restOf
    rw [(Nat.and_or_distrib_left ..).symm]
    exact hall
  unfold numX
  rw [h1]
  by_cases h0 : restOf n = 0
  · have hl : (modeL n).length = 13 := by simp [modeL, h0, baseL_length]
    rw [List.drop_of_length_le (by omega)]
    rw [h0] at hjoin
    exact hjoin
  · have hm : modeL n = (baseL n ++ [43]) ++ hexD (restOf n) 8 := by simp [modeL, h0]
    have hl : (baseL n ++ [43]).length = 14 := by simp [baseL_length]
    have hd : (modeL n).drop 14 = hexD (restOf n) 8 := by rw [hm, List.drop_left' hl]
    rw [hd, foldX_hexD _ (restOf_lt n) 8 (by omega)]
    simp only [Nat.reduceMul, Nat.sub_self, Nat.pow_zero, Nat.div_one]
    exact hjoin
theorem parse_X (t : List UInt8) : parse t = if t.length < 13 ∨ 22 < t.length then (0, 21) else if modeL (numX t) = t then (numX t, 0) else (0, 21) := by
  unfold parse
  split
  · rfl
  · by_cases h : modeL (numX t) = t
    · have e : numR t = numX t := by
        have := numR_modeL (numX t) (numX_lt t)
        rwa [h] at this
      rw [e]
    · rw [if_neg h]
      by_cases g : modeL (numR t) = t
      · exfalso
        have := numX_modeL (numR t) (numR_lt t)
        rw [g] at this
        rw [this] at h
        exact h g
      · rw [if_neg g]
end Go.Proofs.YtnpokdbpmnkbjaaGreatDoor.Mo.Pl
