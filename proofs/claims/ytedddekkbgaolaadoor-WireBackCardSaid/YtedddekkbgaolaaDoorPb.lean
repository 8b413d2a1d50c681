/- WireBack, the plain law: what steps have written, parts in parts, is read again by the same steps. No walk. -/
import Derived.Test.YtedddekkbgaolaaDoorLa
import Derived.Test.YtedddekkbgaolaaDoorFg
namespace Go.Proofs.YtedddekkbgaolaaDoor

/-- What a step writes, if it opens and shuts nothing. -/
def OpP.code (o : OpP) : List UInt8 :=
  if o.kind = 1 then le (o.n % 256) 1 else if o.kind = 2 then le (o.n % 65536) 2 else if o.kind = 3 then le (o.n % 4294967296) 4 else if o.kind = 4 then le o.n 8
  else if o.kind = 5 then o.b else if o.kind = 6 then le o.lets.length 2 ++ o.lets else []
theorem OpP.code_size (o : OpP) (h7 : o.kind ≠ 7) : o.code.length = o.size := by
  unfold OpP.code OpP.size
  repeat' split
  all_goals first | (simp [le_length]; done) | (simp [le_length]; omega) | omega
theorem lets_good : ∀ l : List UInt8, (∀ c ∈ l, c.toNat < 128 ∧ c.toNat ≠ 0) → Tx.good l = true
  | [], _ => rfl
  | c :: l, h => by
    have hc := h c (by simp)
    have ih := lets_good l (fun x hx => h x (List.mem_cons_of_mem _ hx))
    have h1 : Tx.chr (c :: l) = 1 := by
      rw [Tx.chr_of_ne (by simp), Tx.bt_cons]
      unfold Tx.chrN
      rw [if_pos (by omega)]
    exact Tx.good_cons (by omega) (by rw [Tx.bt_cons]; exact hc.2) (by rw [h1]; exact ih)
theorem lettersL_good (l : List UInt8) : Tx.good (lettersL l) = true := by
  refine lets_good _ fun c hc => ?_
  unfold lettersL at hc
  obtain ⟨x, _, rfl⟩ := List.mem_map.1 hc
  have hx := x.toNat_lt
  simp
  omega
theorem lays_code {S : WSt} (o : OpP) (he : S.err = 0) (hf : S.bytes.length + o.code.length ≤ S.limit) : S.lays o = { S with bytes := S.bytes ++ o.code } := by
  have hp : ∀ bs : List UInt8, o.code = bs → S.put bs = { S with bytes := S.bytes ++ o.code } := fun bs hb => by
    rw [hb] at hf ⊢
    exact WSt.put_fits bs he (by omega)
  unfold WSt.lays
  by_cases h1 : o.kind = 1
  · rw [if_pos h1]; exact hp _ (by unfold OpP.code; rw [if_pos h1])
  by_cases h2 : o.kind = 2
  · rw [if_neg h1, if_pos h2]; exact hp _ (by unfold OpP.code; rw [if_neg h1, if_pos h2])
  by_cases h3 : o.kind = 3
  · rw [if_neg h1, if_neg h2, if_pos h3]; exact hp _ (by unfold OpP.code; rw [if_neg h1, if_neg h2, if_pos h3])
  by_cases h4 : o.kind = 4
  · rw [if_neg h1, if_neg h2, if_neg h3, if_pos h4]; exact hp _ (by unfold OpP.code; rw [if_neg h1, if_neg h2, if_neg h3, if_pos h4])
  by_cases h5 : o.kind = 5
  · rw [if_neg h1, if_neg h2, if_neg h3, if_neg h4, if_pos h5]; exact hp _ (by unfold OpP.code; rw [if_neg h1, if_neg h2, if_neg h3, if_neg h4, if_pos h5])
  by_cases h6 : o.kind = 6
  · rw [if_neg h1, if_neg h2, if_neg h3, if_neg h4, if_neg h5, if_pos h6]
    have hl : o.lets.length ≤ 2000 := lettersL_length _
    unfold WSt.text
    rw [if_neg (by omega), if_neg (by omega), if_neg (by rw [OpP.lets, lettersL_good]; simp)]
    exact hp _ (by unfold OpP.code; rw [if_neg h1, if_neg h2, if_neg h3, if_neg h4, if_neg h5, if_pos h6])
  · rw [if_neg h1, if_neg h2, if_neg h3, if_neg h4, if_neg h5, if_neg h6]
    have hc : o.code = [] := by unfold OpP.code; rw [if_neg h1, if_neg h2, if_neg h3, if_neg h4, if_neg h5, if_neg h6]
    rw [hc, List.append_nil]

/-- A reader that has gone so many bytes on. -/
def RSt.past (S : RSt) (k : Nat) : RSt := { S with place := S.place + k }
theorem RSt.past_past (S : RSt) (j k : Nat) : (S.past j).past k = S.past (j + k) := by simp [RSt.past, Nat.add_assoc]
theorem RSt.past_zero (S : RSt) : S.past 0 = S := rfl
theorem RSt.rest_past (S : RSt) (k : Nat) : (S.past k).rest = S.rest.drop k := by simp [RSt.past, RSt.rest]
theorem get_code {S : RSt} (he : S.err = 0) (n k : Nat) (t : List UInt8) (hr : S.rest = le n k ++ t) : S.get k = (n % 256 ^ k, S.past k) := by
  unfold RSt.get
  rw [if_neg (by omega), if_neg (by rw [hr]; simp [le_length]), hr, List.take_left' (le_length n k), val_le]
  rfl
theorem finds_code {S : RSt} (o : OpP) (ho : o.n < 18446744073709551616) (he : S.err = 0) (t : List UInt8) (hr : S.rest = o.code ++ t) : S.finds o = (true, S.past o.code.length) := by
  unfold RSt.finds
  unfold OpP.code at hr ⊢
  by_cases h1 : o.kind = 1
  · rw [if_pos h1] at hr ⊢
    rw [if_pos h1, get_code he _ _ t hr, le_length]
    simp
  rw [if_neg h1] at hr ⊢
  rw [if_neg h1]
  by_cases h2 : o.kind = 2
  · rw [if_pos h2] at hr ⊢
    rw [if_pos h2, get_code he _ _ t hr, le_length]
    simp
  rw [if_neg h2] at hr ⊢
  rw [if_neg h2]
  by_cases h3 : o.kind = 3
  · rw [if_pos h3] at hr ⊢
    rw [if_pos h3, get_code he _ _ t hr, le_length]
    simp
  rw [if_neg h3] at hr ⊢
  rw [if_neg h3]
  by_cases h4 : o.kind = 4
  · rw [if_pos h4] at hr ⊢
    rw [if_pos h4, get_code he _ _ t hr, le_length]
    simp only [Prod.mk.injEq, decide_eq_true_eq, and_true]
    exact Nat.mod_eq_of_lt (by omega)
  rw [if_neg h4] at hr ⊢
  rw [if_neg h4]
  by_cases h5 : o.kind = 5
  · rw [if_pos h5] at hr ⊢
    rw [if_pos h5]
    have : S.raw o.b.length = (o.b, S.past o.b.length) := by
      unfold RSt.raw
      rw [if_neg (by omega), if_neg (by omega), if_neg (by rw [hr, List.length_append]; omega), hr]
      simp [RSt.past]
    rw [this]
    simp
  rw [if_neg h5] at hr ⊢
  rw [if_neg h5]
  by_cases h6 : o.kind = 6
  · rw [if_pos h6] at hr ⊢
    rw [if_pos h6]
    have hl : o.lets.length ≤ 2000 := lettersL_length _
    have hv : val (S.rest.take 2) = o.lets.length := by
      rw [hr, List.append_assoc, List.take_left' (le_length _ 2), val_le]
      exact Nat.mod_eq_of_lt (by omega)
    have hc : S.counted = (some o.lets.length, S) := by
      unfold RSt.counted
      rw [hv, if_neg (by omega), if_neg (by rw [hr]; simp [le_length]), if_neg (by rw [hr]; simp [le_length])]
    have hp : S.part2 o.lets.length = o.lets := by
      unfold RSt.part2
      rw [hr, List.append_assoc, List.drop_left' (le_length _ 2), List.take_left]
    have hgd : Tx.good o.lets = true := lettersL_good _
    unfold RSt.text
    rw [hc]
    simp only [hp, hgd, if_true]
    simp [RSt.past, le_length, Nat.add_assoc]
  · rw [if_neg h6] at hr ⊢
    rw [if_neg h6]
    rfl
theorem part_code {S : RSt} (he : S.err = 0) (c t : List UInt8) (hc : c.length < 65536) (hr : S.rest = le c.length 2 ++ c ++ t) : S.part = (⟨c, 0, S.base + (S.place + 2), 0, 0⟩, S.past (2 + c.length)) := by
  have hv : val (S.rest.take 2) = c.length := by
    rw [hr, List.append_assoc, List.take_left' (le_length _ 2), val_le]
    exact Nat.mod_eq_of_lt (by omega)
  have h1 : S.counted = (some c.length, S) := by
    unfold RSt.counted
    rw [hv, if_neg (by omega), if_neg (by rw [hr]; simp [le_length]), if_neg (by rw [hr]; simp [le_length])]
  have hp : S.part2 c.length = c := by
    unfold RSt.part2
    rw [hr, List.append_assoc, List.drop_left' (le_length _ 2), List.take_left]
  unfold RSt.part
  rw [h1]
  simp only [hp]
  simp [RSt.past, Nat.add_assoc]

/-- A row of steps goes well, from a reader and a stack of those that wait (the nearest first), up to the place N. -/
def Okay (N : Nat) : List OpP → RSt → List RSt → Prop
  | [], r, out => out = [] ∧ r.err = 0 ∧ r.place = r.bytes.length ∧ r.base + r.place = N
  | o :: l, r, out =>
    if o.kind = 7 then Okay N l r.part.1 (r.part.2 :: out)
    else if o.kind = 8 then r.fin.err = 0 ∧ (match out with | [] => False | q :: out => Okay N l q out)
    else (r.finds o).1 = true ∧ Okay N l (r.finds o).2 out

/-- Steps that shut what they open, and what they write. -/
inductive Seqs : List OpP → List UInt8 → Prop
  | nil : Seqs [] []
  | leaf {l : List OpP} {b : List UInt8} {o : OpP} (h : Seqs l b) (hn : o.n < 18446744073709551616) (h7 : o.kind ≠ 7) (h8 : o.kind ≠ 8) : Seqs (l ++ [o]) (b ++ o.code)
  | part {l m : List OpP} {b c : List UInt8} {o s : OpP} (h : Seqs l b) (hm : Seqs m c) (h7 : o.kind = 7) (h8 : s.kind = 8) (hc : c.length < 65536) : Seqs (l ++ (o :: m ++ [s])) (b ++ (le c.length 2 ++ c))
theorem fin_end {S : RSt} (he : S.err = 0) (hp : S.bytes.length ≤ S.place) : S.fin.err = 0 := by
  unfold RSt.fin
  rw [if_neg (by omega)]
  exact he
theorem seqs_read {N : Nat} {l : List OpP} {b : List UInt8} (h : Seqs l b) : ∀ (r : RSt) (t : List UInt8) (out : List RSt) (k : List OpP), r.err = 0 → r.rest = b ++ t → Okay N k (r.past b.length) out → Okay N (l ++ k) r out := by
  induction h with
  | nil => intro r t out k _ _ hk; exact hk
  | @leaf l b o h hn h7 h8 ih =>
    intro r t out k he hr hk
    rw [List.append_assoc] at hr ⊢
    refine ih r (o.code ++ t) out ([o] ++ k) he hr ?_
    have h1 : (r.past b.length).rest = o.code ++ t := by rw [RSt.rest_past, hr, List.drop_left]
    show Okay N (o :: k) _ _
    unfold Okay
    rw [if_neg h7, if_neg h8, finds_code (S := r.past b.length) o hn he t h1]
    refine ⟨rfl, ?_⟩
    rw [RSt.past_past, ← List.length_append]
    exact hk
  | @part l m b c o s h hm h7 h8 hc ih ihm =>
    intro r t out k he hr hk
    rw [List.append_assoc] at hr ⊢
    refine ih r _ out (o :: m ++ [s] ++ k) he hr ?_
    have h1 : (r.past b.length).rest = le c.length 2 ++ c ++ t := by rw [RSt.rest_past, hr, List.drop_left]
    show Okay N (o :: (m ++ [s] ++ k)) _ _
    unfold Okay
    rw [if_pos h7, part_code (S := r.past b.length) he c t hc h1, List.append_assoc]
    refine ihm ⟨c, 0, _, 0, 0⟩ [] _ ([s] ++ k) rfl (by simp [RSt.rest]) ?_
    show Okay N (s :: k) _ _
    unfold Okay
    rw [if_neg (by omega), if_pos h8]
    refine ⟨fin_end rfl (by simp [RSt.past]), ?_⟩
    show Okay N k _ _
    rw [RSt.past_past]
    have : b.length + (2 + c.length) = (b ++ (le c.length 2 ++ c)).length := by simp [le_length]
    rw [this]
    exact hk
theorem seqs_okay {l : List OpP} {b : List UInt8} (h : Seqs l b) : Okay b.length l (RSt.new b) [] := by
  have := seqs_read (N := b.length) h (RSt.new b) [] [] [] rfl (by simp [RSt.new, RSt.rest]) ⟨rfl, rfl, by simp [RSt.new, RSt.past], by simp [RSt.new, RSt.past]⟩
  rwa [List.append_nil] at this

/-- Steps so far, what stands written, the places that are open. -/
inductive Stk : List OpP → List UInt8 → List Nat → Prop
  | base {l : List OpP} {b : List UInt8} (h : Seqs l b) : Stk l b []
  | push {l m : List OpP} {b c : List UInt8} {os : List Nat} {o : OpP} (h : Stk l b os) (h7 : o.kind = 7) (hm : Seqs m c) : Stk (l ++ o :: m) (b ++ ([0, 0] ++ c)) (os ++ [b.length])
theorem Stk.leaf {l : List OpP} {b : List UInt8} {os : List Nat} (h : Stk l b os) {o : OpP} (hn : o.n < 18446744073709551616) (h7 : o.kind ≠ 7) (h8 : o.kind ≠ 8) : Stk (l ++ [o]) (b ++ o.code) os := by
  cases h with
  | base h => exact .base (h.leaf hn h7 h8)
  | push h h7' hm =>
    have := h.push h7' (hm.leaf hn h7 h8)
    simpa using this
theorem Stk.add {l m : List OpP} {b c : List UInt8} {os : List Nat} (h : Stk l b os) {o s : OpP} (hm : Seqs m c) (h7 : o.kind = 7) (h8 : s.kind = 8) (hc : c.length < 65536) : Stk (l ++ (o :: m ++ [s])) (b ++ (le c.length 2 ++ c)) os := by
  cases h with
  | base h => exact .base (h.part hm h7 h8 hc)
  | push h h7' hm' =>
    have := h.push h7' (hm'.part hm h7 h8 hc)
    simpa using this
theorem Stk.opn {l : List OpP} {b : List UInt8} {os : List Nat} (h : Stk l b os) {o : OpP} (h7 : o.kind = 7) : Stk (l ++ [o]) (b ++ [0, 0]) (os ++ [b.length]) := by
  simpa using h.push h7 .nil

/-- A writer that has written them. -/
structure Wrote (l : List OpP) (S : WSt) : Prop where
  err : S.err = 0
  limit : S.limit = 60000
  fits : S.bytes.length ≤ 60000
  stk : Stk l S.bytes S.opens
theorem Wrote.new : Wrote [] (WSt.new 60000) := ⟨rfl, rfl, by simp [WSt.new], .base .nil⟩
theorem Wrote.leaf {l : List OpP} {S : WSt} (h : Wrote l S) {o : OpP} (hn : o.n < 18446744073709551616) (h7 : o.kind ≠ 7) (h8 : o.kind ≠ 8) (hf : S.bytes.length + o.size ≤ 60000) :
    Wrote (l ++ [o]) (S.lays o) ∧ (S.lays o).bytes.length = S.bytes.length + o.size ∧ (S.lays o).opens = S.opens := by
  have hc := o.code_size h7
  rw [lays_code o h.err (by rw [h.limit]; omega)]
  exact ⟨⟨h.err, h.limit, by simp only [List.length_append]; omega, h.stk.leaf hn h7 h8⟩, by simp only [List.length_append]; omega, rfl⟩
theorem lays_none {S : WSt} {o : OpP} (h : o.kind = 7 ∨ o.kind = 8) : S.lays o = S := by
  unfold WSt.lays
  rw [if_neg (by omega), if_neg (by omega), if_neg (by omega), if_neg (by omega), if_neg (by omega), if_neg (by omega)]
theorem Wrote.opn {l : List OpP} {S : WSt} (h : Wrote l S) {o : OpP} (h7 : o.kind = 7) (hf : S.bytes.length + 2 ≤ 60000) :
    Wrote (l ++ [o]) S.opn.1 ∧ S.opn.2 = S.bytes.length ∧ S.opn.1.bytes.length = S.bytes.length + 2 ∧ S.opn.1.opens = S.opens ++ [S.bytes.length] := by
  have e : S.opn = ({ S with bytes := S.bytes ++ [0, 0], opens := S.opens ++ [S.bytes.length] }, S.bytes.length) := by
    unfold WSt.opn
    rw [WSt.put_fits [0, 0] h.err (by rw [h.limit]; simp; omega)]
    rw [if_neg (by have := h.err; simpa using this)]
  rw [e]
  exact ⟨⟨h.err, h.limit, by simp only [List.length_append, List.length_cons, List.length_nil]; omega, h.stk.opn h7⟩, rfl, by simp, rfl⟩
theorem set_pair (b c : List UInt8) (x y : UInt8) : ((b ++ ([0, 0] ++ c)).set b.length x).set (b.length + 1) y = b ++ ([x, y] ++ c) := by
  rw [List.set_append_right _ _ (Nat.le_refl _), List.set_append_right _ _ (by omega)]
  simp
theorem Wrote.shut {l : List OpP} {S : WSt} (h : Wrote l S) {s : OpP} (h8 : s.kind = 8) (os : List Nat) (p : Nat) (ho : S.opens = os ++ [p]) :
    Wrote (l ++ [s]) (S.shut (p : Int)) ∧ (S.shut (p : Int)).bytes.length = S.bytes.length ∧ (S.shut (p : Int)).opens = os := by
  have hS := h.stk
  have hfit := h.fits
  obtain ⟨limit, bytes, opens, err⟩ := S
  simp only at ho hS hfit
  subst ho
  generalize hos : os ++ [p] = os' at hS
  cases hS with
  | base _ => simp at hos
  | @push l m b c os2 o h2 h7 hm =>
    obtain ⟨rfl, e2⟩ := List.append_inj' hos rfl
    simp only [List.cons.injEq, and_true] at e2
    subst e2
    have hlen : (b ++ ([0, 0] ++ c)).length = b.length + 2 + c.length := by simp; omega
    have hc : c.length < 65536 := by omega
    have hb : (b ++ ([0, 0] ++ c)).length - b.length - 2 = c.length := by omega
    have e : (⟨limit, b ++ ([0, 0] ++ c), os ++ [b.length], err⟩ : WSt).shut (b.length : Int) = ⟨limit, b ++ (le c.length 2 ++ c), os, err⟩ := by
      unfold WSt.shut
      rw [if_neg (by have := h.err; simpa using this)]
      simp only [List.getLast?_append, List.getLast?_singleton, Option.some_or, hb]
      rw [if_neg (by simp), if_neg (by omega), set_pair]
      simp [le]
    rw [e]
    refine ⟨⟨h.err, h.limit, ?_, ?_⟩, ?_, rfl⟩
    · show (b ++ (le c.length 2 ++ c)).length ≤ 60000
      simp [le_length] at hfit ⊢
      omega
    · have := h2.add hm h7 h8 hc
      simpa using this
    · simp [le_length]
      omega
theorem Wrote.done {l : List OpP} {S : WSt} (h : Wrote l S) (ho : S.opens = []) : S.done = (S.bytes, 0) ∧ Okay S.bytes.length l (RSt.new S.bytes) [] := by
  have hS := h.stk
  rw [ho] at hS
  refine ⟨by unfold WSt.done; rw [if_neg (by have := h.err; omega), if_neg (by simp [ho])], ?_⟩
  generalize S.bytes = bb at hS ⊢
  generalize hos : ([] : List Nat) = os at hS
  cases hS with
  | base hs => exact seqs_okay hs
  | push => simp at hos
end Go.Proofs.YtedddekkbgaolaaDoor
