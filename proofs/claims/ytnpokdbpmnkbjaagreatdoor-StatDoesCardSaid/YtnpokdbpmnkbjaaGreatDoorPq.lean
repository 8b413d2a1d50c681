/- Plain laws of records and of the document's answers. -/
import Derived.Test.YtnpokdbpmnkbjaaGreatDoorTo
import Derived.Test.YtnpokdbpmnkbjaaGreatDoorOf
import Derived.Test.YtnpokdbpmnkbjaaGreatDoorBk
namespace Go.Proofs.YtnpokdbpmnkbjaaGreatDoor

theorem val_le (n k : Nat) : val (le n k) = n % 256 ^ k := by
  induction k generalizing n with
  | zero => simp [le, val, Nat.mod_one]
  | succ k ih =>
    simp only [le, val, ih, Nat.pow_succ']
    rw [Nat.mod_mul]
    simp
theorem val_le_of {n k : Nat} (h : n < 256 ^ k) : val (le n k) = n := by rw [val_le, Nat.mod_eq_of_lt h]
theorem RSt.get_on {S : RSt} {n k : Nat} {r : List UInt8} (h : S.On (le n k ++ r)) (hn : n < 256 ^ k) : S.get k = (n, S.step k) ∧ (S.step k).On r := by
  obtain ⟨h0, hr⟩ := h
  have hl : (le n k ++ r).take k = le n k := by rw [List.take_append_of_le_length (by rw [le_length]; omega), List.take_of_length_le (by rw [le_length]; omega)]
  refine ⟨?_, h0, ?_⟩
  · unfold RSt.get
    rw [if_neg (by omega), hr, if_neg (by simp [le_length]), hl, val_le_of hn]
    rfl
  · show S.bytes.drop (S.place + k) = r
    rw [← List.drop_drop]
    show S.rest.drop k = r
    rw [hr]
    exact List.drop_left' (le_length n k)
theorem RSt.counted_on {S : RSt} {l r : List UInt8} (h : S.On (txt l ++ r)) (hn : l.length < 65536) : S.counted = (some l.length, S) ∧ S.part2 l.length = l ∧ (S.step (2 + l.length)).On r := by
  obtain ⟨h0, hr⟩ := h
  have ht : (txt l ++ r).take 2 = le l.length 2 := by
    rw [txt, List.append_assoc]
    exact List.take_left' (le_length _ _)
  have hd : (txt l ++ r).drop 2 = l ++ r := by
    rw [txt, List.append_assoc]
    exact List.drop_left' (le_length _ _)
  refine ⟨?_, ?_, h0, ?_⟩
  · unfold RSt.counted
    rw [if_neg (by omega), hr, ht, val_le_of (by omega), if_neg (by rw [List.length_append, txt_length]; omega), if_neg (by rw [List.length_append, txt_length]; omega)]
  · unfold RSt.part2
    rw [hr, hd]
    exact List.take_left
  · show S.bytes.drop (S.place + (2 + l.length)) = r
    rw [← List.drop_drop, ← List.drop_drop]
    show (S.rest.drop 2).drop l.length = r
    rw [hr, hd]
    exact List.drop_left
theorem RSt.text_on {S : RSt} {l r : List UInt8} (h : S.On (txt l ++ r)) (hn : l.length < 65536) (hg : Tx.good l = true) : S.text = (l, S.step (2 + l.length)) ∧ (S.step (2 + l.length)).On r := by
  obtain ⟨hc, hp, ho⟩ := RSt.counted_on h hn
  refine ⟨?_, ho⟩
  unfold RSt.text
  rw [hc]
  simp only [hp, hg, if_true]
  simp [RSt.step, Nat.add_assoc]
theorem RSt.fin_on {S : RSt} (h : S.On []) : S.fin = S := by
  have := h.rest
  unfold RSt.rest at this
  have := congrArg List.length this
  simp only [List.length_drop, List.length_nil] at this
  unfold RSt.fin
  rw [if_neg (by omega)]
theorem RSt.part_on {S : RSt} {l r : List UInt8} (h : S.On (txt l ++ r)) (hn : l.length < 65536) : S.part = (⟨l, 0, S.base + (S.place + 2), 0, 0⟩, S.step (2 + l.length)) ∧ (S.step (2 + l.length)).On r := by
  obtain ⟨hc, hp, ho⟩ := RSt.counted_on h hn
  refine ⟨?_, ho⟩
  unfold RSt.part
  rw [hc]
  simp only [hp]
  simp [RSt.step, Nat.add_assoc]
theorem RSt.step_err (S : RSt) (a : Nat) : (S.step a).err = S.err := rfl
theorem RSt.qid_on {S : RSt} {q : QidP} {r : List UInt8} (h : S.On (le q.kind 1 ++ (le q.vers 4 ++ (le q.path 8 ++ r)))) (hq : q.Fits) : S.qid = (q, S.step 13) ∧ (S.step 13).On r := by
  obtain ⟨e1, h1⟩ := RSt.get_on h hq.kind
  obtain ⟨e2, h2⟩ := RSt.get_on h1 hq.vers
  obtain ⟨e3, h3⟩ := RSt.get_on h2 hq.path
  rw [RSt.step_step, RSt.step_step] at h3
  refine ⟨?_, h3⟩
  unfold RSt.qid
  simp only [e1, e2, e3]
  rw [if_neg (by have := h3.err; simp only [RSt.step_err] at this ⊢; omega), RSt.step_step, RSt.step_step]
theorem strOf_list (t : ByteArray) : strOf t.data.toList = t := rfl
theorem RSt.fields_on {S : RSt} {s : StatP} (h : S.On s.body) (hf : s.Fits) (hs : s.err = 0) : S.fields = (s, S.step s.body.length) := by
  obtain ⟨ht, -⟩ := StatP.err_zero hs
  obtain ⟨l1, g1⟩ := textErr_zero (ht s.name (by simp [StatP.texts]))
  obtain ⟨l2, g2⟩ := textErr_zero (ht s.uid (by simp [StatP.texts]))
  obtain ⟨l3, g3⟩ := textErr_zero (ht s.gid (by simp [StatP.texts]))
  obtain ⟨l4, g4⟩ := textErr_zero (ht s.muid (by simp [StatP.texts]))
  have hb : s.body = le s.typ 2 ++ (le s.dev 4 ++ (le s.qid.kind 1 ++ (le s.qid.vers 4 ++ (le s.qid.path 8 ++ (le s.mode 4 ++ (le s.atime 4 ++ (le s.mtime 4 ++ (le s.length 8 ++
    (txt s.name.data.toList ++ (txt s.uid.data.toList ++ (txt s.gid.data.toList ++ (txt s.muid.data.toList ++ [])))))))))))) := by
    simp only [StatP.body, List.append_assoc, List.append_nil]
  have hbl := s.body_length
  rw [hb] at h
  obtain ⟨e1, h1⟩ := RSt.get_on h (by have := hf.typ; omega)
  obtain ⟨e2, h2⟩ := RSt.get_on h1 (by have := hf.dev; omega)
  obtain ⟨e3, h3⟩ := RSt.qid_on h2 hf.qid
  obtain ⟨e4, h4⟩ := RSt.get_on h3 (by have := hf.mode; omega)
  obtain ⟨e5, h5⟩ := RSt.get_on h4 (by have := hf.atime; omega)
  obtain ⟨e6, h6⟩ := RSt.get_on h5 (by have := hf.mtime; omega)
  obtain ⟨e7, h7⟩ := RSt.get_on h6 (by have := hf.length; omega)
  obtain ⟨e8, h8⟩ := RSt.text_on h7 l1 g1
  obtain ⟨e9, h9⟩ := RSt.text_on h8 l2 g2
  obtain ⟨e10, h10⟩ := RSt.text_on h9 l3 g3
  obtain ⟨e11, h11⟩ := RSt.text_on h10 l4 g4
  have e12 := RSt.fin_on h11
  unfold RSt.fields
  simp only [e1, e2, e3, e4, e5, e6, e7, e8, e9, e10, e11, e12, strOf_list]
  simp only [RSt.step_step]
  rw [show 2 + 4 + 13 + 4 + 4 + 4 + 8 + (2 + s.name.data.toList.length) + (2 + s.uid.data.toList.length) + (2 + s.gid.data.toList.length) + (2 + s.muid.data.toList.length) = s.body.length by
    rw [hb]
    simp only [List.length_append, le_length, txt_length, List.length_nil]
    omega]
theorem RSt.stat_on {S : RSt} {s : StatP} {r : List UInt8} (h : S.On (s.enc ++ r)) (hf : s.Fits) (hs : s.err = 0) : S.stat = (s, S.step s.size) ∧ (S.step s.size).On r := by
  obtain ⟨-, hb⟩ := StatP.err_zero hs
  have hl := s.body_length
  obtain ⟨e, h1⟩ := RSt.part_on (l := s.body) h hb
  rw [show 2 + s.body.length = s.size by omega] at e h1
  refine ⟨?_, h1⟩
  have e2 := RSt.fields_on (S := ⟨s.body, 0, S.base + (S.place + 2), 0, 0⟩) (s := s) ⟨rfl, rfl⟩ hf hs
  unfold RSt.stat
  simp only [e, e2]
  rw [if_neg (by simp [RSt.step])]
theorem decode_enc {s : StatP} (hf : s.Fits) (hs : s.err = 0) : decode s.enc = (s, 0) := by
  obtain ⟨e, h1⟩ := RSt.stat_on (S := RSt.of s.enc) (s := s) (r := []) ⟨rfl, by simp [RSt.of, RSt.rest]⟩ hf hs
  unfold decode
  rw [e]
  simp only
  rw [RSt.fin_on h1, if_neg (by have := h1.err; omega)]
theorem decode_two (b : List UInt8) : (decode b).2 = 0 ∨ decode b = (StatP.zero, 20) := by
  unfold decode
  split
  · exact Or.inr rfl
  · exact Or.inl rfl
theorem decode_of {b : List UInt8} (h : (decode b).2 = 0) : b = (decode b).1.enc ∧ (decode b).1.Fits ∧ (decode b).1.err = 0 := by
  by_cases hf : (RSt.of b).stat.2.fin.err = 0
  · have e : decode b = ((RSt.of b).stat.1, 0) := by
      unfold decode
      rw [if_neg (by omega)]
    rw [e]
    obtain ⟨a, -⟩ := RSt.fin_of hf
    obtain ⟨h1, h2, h3, -⟩ := RSt.stat_of a.err
    refine ⟨?_, h2, h3⟩
    have := h1.rest
    rw [a.rest, List.append_nil] at this
    exact this
  · have e : decode b = (StatP.zero, 20) := by
      unfold decode
      rw [if_pos hf]
    rw [e] at h
    simp at h
/-- How long what begins so is, its first two bytes tell. -/
theorem enc_len {s t : StatP} (hs : s.err = 0) (ht : t.err = 0) (h : s.enc.take 2 = t.enc.take 2) : s.enc.length = t.enc.length := by
  obtain ⟨-, h1⟩ := StatP.err_zero hs
  obtain ⟨-, h2⟩ := StatP.err_zero ht
  have e : ∀ l : List UInt8, (txt l).take 2 = le l.length 2 := fun l => List.take_left' (le_length _ _)
  unfold StatP.enc at *
  rw [e, e] at h
  have := congrArg val h
  rw [val_le_of (by omega), val_le_of (by omega)] at this
  rw [txt_length, txt_length, this]
theorem decode_more {s : StatP} (hs : s.err = 0) (x : UInt8) : (decode (s.enc ++ [x])).2 = 20 := by
  rcases decode_two (s.enc ++ [x]) with h | h
  · exfalso
    obtain ⟨h1, _, h3⟩ := decode_of h
    have hl := s.enc_length
    have : 49 ≤ s.size := by unfold StatP.size; omega
    have := enc_len hs h3 (by rw [← h1, List.take_append_of_le_length (by omega)])
    have h4 := congrArg List.length h1
    rw [List.length_append, List.length_singleton] at h4
    omega
  · rw [h]
theorem decode_less {s : StatP} (hs : s.err = 0) : (decode (s.enc.take (s.enc.length - 1))).2 = 20 := by
  rcases decode_two (s.enc.take (s.enc.length - 1)) with h | h
  · exfalso
    obtain ⟨h1, _, h3⟩ := decode_of h
    have hl := s.enc_length
    have : 49 ≤ s.size := by unfold StatP.size; omega
    have := enc_len hs h3 (by rw [← h1, List.take_take, Nat.min_eq_left (by omega)])
    have h4 := congrArg List.length h1
    rw [List.length_take] at h4
    omega
  · rw [h]

/-- Texts one behind the other, as the document reads them. -/
def textsR (l : List UInt8) : Nat → Nat → Option (List (List UInt8) × Nat)
  | p, 0 => some ([], p)
  | p, k + 1 =>
    if l.length < p + 2 then none else if l.length < p + 2 + val ((l.drop p).take 2) then none
    else if Tx.good ((l.drop (p + 2)).take (val ((l.drop p).take 2))) then (textsR l (p + 2 + val ((l.drop p).take 2)) k).map fun r => ((l.drop (p + 2)).take (val ((l.drop p).take 2)) :: r.1, r.2) else none
theorem field_at {l pre post : List UInt8} {x n k : Nat} (h : l = pre ++ (le x n ++ post)) (hk : pre.length = k) (hx : x < 256 ^ n) : val ((l.drop k).take n) = x ∧ l = (pre ++ le x n) ++ post ∧ (pre ++ le x n).length = k + n := by
  subst h
  refine ⟨?_, by simp, by simp [le_length, hk]⟩
  rw [List.drop_append_of_le_length (by omega), List.drop_of_length_le (by omega), List.nil_append, List.take_append_of_le_length (by simp [le_length]), List.take_of_length_le (by simp [le_length])]
  exact val_le_of hx
theorem txts_of : ∀ (l : List UInt8) (ts : List ByteArray) (p : Nat), p ≤ l.length → (∀ t ∈ ts, textErr t = 0) → ∀ post, l.drop p = txts ts ++ post → textsR l p ts.length = some (ts.map (fun t => t.data.toList), l.length - post.length)
  | l, [], p, hp, _, post, h => by
    simp only [txts, List.flatMap_nil, List.nil_append] at h
    have := congrArg List.length h
    simp only [List.length_drop] at this
    simp only [textsR, List.length_nil, List.map_nil]
    rw [show p = l.length - post.length by omega]
  | l, t :: ts, p, hp, ht, post, h => by
    obtain ⟨h1, h2⟩ := textErr_zero (ht t (by simp))
    have e : l.drop p = le t.data.toList.length 2 ++ (t.data.toList ++ (txts ts ++ post)) := by rw [h]; simp [txts, txt]
    have hl : l.length - p = 2 + t.data.toList.length + (txts ts ++ post).length := by
      have := congrArg List.length e
      simp only [List.length_drop, List.length_append, le_length] at this
      simp only [List.length_append]
      omega
    have e2 : (l.drop p).take 2 = le t.data.toList.length 2 := by
      rw [e, List.take_append_of_le_length (by simp [le_length]), List.take_of_length_le (by simp [le_length])]
    have ev : val ((l.drop p).take 2) = t.data.toList.length := by
      rw [e2]
      exact val_le_of (by omega)
    have e3 : l.drop (p + 2) = t.data.toList ++ (txts ts ++ post) := by
      rw [← List.drop_drop, e, List.drop_append_of_le_length (by simp [le_length]), List.drop_of_length_le (by simp [le_length]), List.nil_append]
    have e4 : (l.drop (p + 2)).take t.data.toList.length = t.data.toList := by
      rw [e3, List.take_append_of_le_length (by omega), List.take_of_length_le (by omega)]
    have e5 : l.drop (p + 2 + t.data.toList.length) = txts ts ++ post := by
      rw [← List.drop_drop, e3, List.drop_append_of_le_length (by omega), List.drop_of_length_le (by omega), List.nil_append]
    have ih := txts_of l ts (p + 2 + t.data.toList.length) (by omega) (fun x hx => ht x (by simp [hx])) post e5
    simp only [List.length_cons, textsR]
    rw [ev, if_neg (by omega), if_neg (by omega), e4, if_pos h2, ih]
    rfl
theorem of_txts : ∀ (l : List UInt8) (k p : Nat) (ts : List (List UInt8)) (e : Nat), p ≤ l.length → textsR l p k = some (ts, e) → ts.length = k ∧ l.drop p = (ts.flatMap txt) ++ l.drop e ∧ (∀ t ∈ ts, t.length < 65536 ∧ Tx.good t = true) ∧ e ≤ l.length
  | l, 0, p, ts, e, hp, h => by
    simp only [textsR, Option.some.injEq, Prod.mk.injEq] at h
    obtain ⟨rfl, rfl⟩ := h
    exact ⟨rfl, by simp, by simp, hp⟩
  | l, k + 1, p, ts, e, hp, h => by
    unfold textsR at h
    by_cases h1 : l.length < p + 2
    · rw [if_pos h1] at h
      cases h
    rw [if_neg h1] at h
    by_cases h2 : l.length < p + 2 + val ((l.drop p).take 2)
    · rw [if_pos h2] at h
      cases h
    rw [if_neg h2] at h
    by_cases h3 : Tx.good ((l.drop (p + 2)).take (val ((l.drop p).take 2))) = true
    · rw [if_pos h3] at h
      generalize hn : val ((l.drop p).take 2) = n at *
      cases hr : textsR l (p + 2 + n) k with
      | none => rw [hr] at h; cases h
      | some r =>
        rw [hr] at h
        obtain ⟨ts', e'⟩ := r
        simp only [Option.map_some, Option.some.injEq, Prod.mk.injEq] at h
        obtain ⟨rfl, rfl⟩ := h
        obtain ⟨i1, i2, i3, i4⟩ := of_txts l k (p + 2 + n) ts' e' (by omega) hr
        have hlen : ((l.drop (p + 2)).take n).length = n := by simp; omega
        have hv := val_lt ((l.drop p).take 2)
        rw [hn] at hv
        have h2l : ((l.drop p).take 2).length = 2 := by simp; omega
        rw [h2l] at hv
        refine ⟨by simp [i1], ?_, ?_, i4⟩
        · simp only [List.flatMap_cons, txt, hlen]
          have ev : le n 2 = (l.drop p).take 2 := by
            have := le_val ((l.drop p).take 2)
            rwa [hn, h2l] at this
          rw [ev]
          have s1 : l.drop p = (l.drop p).take 2 ++ l.drop (p + 2) := by rw [← List.drop_drop]; exact (List.take_append_drop 2 _).symm
          have s2 : l.drop (p + 2) = (l.drop (p + 2)).take n ++ l.drop (p + 2 + n) := by rw [← List.drop_drop (i := n)]; exact (List.take_append_drop n _).symm
          rw [i2] at s2
          simp only [List.append_assoc]
          rw [← s2]
          exact s1
        · intro t ht
          simp only [List.mem_cons] at ht
          rcases ht with rfl | ht
          · exact ⟨by omega, h3⟩
          · exact i3 t ht
    · rw [if_neg h3] at h
      cases h
def recOf (l : List UInt8) (ts : List (List UInt8)) : StatP :=
  ⟨val ((l.drop 2).take 2), val ((l.drop 4).take 4), ⟨val ((l.drop 8).take 1), val ((l.drop 9).take 4), val ((l.drop 13).take 8)⟩, val ((l.drop 21).take 4), val ((l.drop 25).take 4), val ((l.drop 29).take 4), val ((l.drop 33).take 8),
   strOf (ts.getD 0 []), strOf (ts.getD 1 []), strOf (ts.getD 2 []), strOf (ts.getD 3 [])⟩
/-- Just one record, as the document reads it. -/
def decR (l : List UInt8) : StatP × Nat :=
  if l.length < 49 then (StatP.zero, 20) else if val ((l.drop 0).take 2) + 2 ≠ l.length then (StatP.zero, 20)
  else match textsR l 41 4 with
    | none => (StatP.zero, 20)
    | some r => if r.2 ≠ l.length then (StatP.zero, 20) else (recOf l r.1, 0)
theorem decR_two (l : List UInt8) : (decR l).2 = 0 ∨ decR l = (StatP.zero, 20) := by
  unfold decR
  split
  · exact Or.inr rfl
  · split
    · exact Or.inr rfl
    · split
      · exact Or.inr rfl
      · split
        · exact Or.inr rfl
        · exact Or.inl rfl
theorem cut_le (l : List UInt8) (k n : Nat) (h : k + n ≤ l.length) : l.drop k = le (val ((l.drop k).take n)) n ++ l.drop (k + n) := by
  have h2 : ((l.drop k).take n).length = n := by simp; omega
  have e := le_val ((l.drop k).take n)
  rw [h2] at e
  rw [e, ← List.drop_drop]
  exact (List.take_append_drop n _).symm
theorem strOf_size (l : List UInt8) : (strOf l).size = l.length := by simp [strOf, ByteArray.size]
theorem decR_of {l : List UInt8} (h : (decR l).2 = 0) : l = (decR l).1.enc ∧ (decR l).1.Fits ∧ (decR l).1.err = 0 := by
  unfold decR at h ⊢
  by_cases h1 : l.length < 49
  · rw [if_pos h1] at h
    cases h
  rw [if_neg h1] at h ⊢
  by_cases h2 : val ((l.drop 0).take 2) + 2 ≠ l.length
  · rw [if_pos h2] at h
    cases h
  rw [if_neg h2] at h ⊢
  cases hr : textsR l 41 4 with
  | none => rw [hr] at h; cases h
  | some r =>
    rw [hr] at h
    obtain ⟨ts, e⟩ := r
    simp only at h ⊢
    by_cases h3 : e ≠ l.length
    · rw [if_pos h3] at h
      cases h
    rw [if_neg h3] at h ⊢
    have h3' : e = l.length := by omega
    subst h3'
    obtain ⟨t1, t2, t3, -⟩ := of_txts l 4 41 ts _ (by omega) hr
    rw [List.drop_of_length_le (Nat.le_refl _), List.append_nil] at t2
    obtain ⟨x, ts, rfl⟩ := List.exists_cons_of_length_eq_add_one t1
    obtain ⟨y, ts, rfl⟩ := List.exists_cons_of_length_eq_add_one (by simpa using t1 : ts.length = 2 + 1)
    obtain ⟨z, ts, rfl⟩ := List.exists_cons_of_length_eq_add_one (by simpa using t1 : ts.length = 1 + 1)
    obtain ⟨u, ts, rfl⟩ := List.exists_cons_of_length_eq_add_one (by simpa using t1 : ts.length = 0 + 1)
    obtain rfl : ts = [] := List.eq_nil_of_length_eq_zero (by simpa using t1)
    have c0 := cut_le l 0 2 (by omega)
    have c1 := cut_le l 2 2 (by omega)
    have c2 := cut_le l 4 4 (by omega)
    have c3 := cut_le l 8 1 (by omega)
    have c4 := cut_le l 9 4 (by omega)
    have c5 := cut_le l 13 8 (by omega)
    have c6 := cut_le l 21 4 (by omega)
    have c7 := cut_le l 25 4 (by omega)
    have c8 := cut_le l 29 4 (by omega)
    have c9 := cut_le l 33 8 (by omega)
    simp only [Nat.reduceAdd, Nat.zero_add] at c0 c1 c2 c3 c4 c5 c6 c7 c8 c9
    rw [List.drop_zero] at c0
    have hlen : l.length = 41 + (2 + x.length + (2 + y.length + (2 + z.length + (2 + u.length)))) := by
      have := congrArg List.length t2
      simp only [List.flatMap_cons, List.flatMap_nil, List.append_nil, List.length_append, List.length_drop, txt_length] at this
      omega
    have hsz : (recOf l [x, y, z, u]).size = l.length := by
      unfold StatP.size recOf
      simp only [List.getD_cons_zero, List.getD_cons_succ, strOf_size]
      omega
    have hv : val ((l.drop 0).take 2) = (recOf l [x, y, z, u]).size - 2 := by rw [hsz]; omega
    have hb := fun (k n : Nat) => (val_lt ((l.drop k).take n))
    have hbb : ∀ k n, val ((l.drop k).take n) < 256 ^ n := fun k n => Nat.lt_of_lt_of_le (hb k n) (Nat.pow_le_pow_right (by omega) (by simp; omega))
    have henc : l = (recOf l [x, y, z, u]).enc := by
      rw [enc_eq]
      unfold StatP.nums txts StatP.texts
      rw [← hv]
      unfold recOf
      simp only [List.getD_cons_zero, List.getD_cons_succ, List.flatMap_cons, List.flatMap_nil, List.append_nil, strOf_toList, List.drop_zero]
      simp only [List.flatMap_cons, List.flatMap_nil, List.append_nil] at t2
      rw [t2] at c9
      rw [c9] at c8
      rw [c8] at c7
      rw [c7] at c6
      rw [c6] at c5
      rw [c5] at c4
      rw [c4] at c3
      rw [c3] at c2
      rw [c2] at c1
      rw [c1] at c0
      simp only [List.append_assoc]
      exact c0
    refine ⟨henc, ⟨hbb 2 2, hbb 4 4, ⟨hbb 8 1, hbb 9 4, hbb 13 8⟩, hbb 21 4, hbb 25 4, hbb 29 4, hbb 33 8⟩, ?_⟩
    have hv2 := hbb 0 2
    refine StatP.err_of (fun t ht => ?_) ?_
    · simp only [StatP.texts, recOf, List.getD_cons_zero, List.getD_cons_succ, List.mem_cons, List.not_mem_nil, or_false] at ht
      rcases ht with rfl | rfl | rfl | rfl
      · exact textErr_of (by rw [strOf_toList]; exact (t3 x (by simp)).1) (by rw [strOf_toList]; exact (t3 x (by simp)).2)
      · exact textErr_of (by rw [strOf_toList]; exact (t3 y (by simp)).1) (by rw [strOf_toList]; exact (t3 y (by simp)).2)
      · exact textErr_of (by rw [strOf_toList]; exact (t3 z (by simp)).1) (by rw [strOf_toList]; exact (t3 z (by simp)).2)
      · exact textErr_of (by rw [strOf_toList]; exact (t3 u (by simp)).1) (by rw [strOf_toList]; exact (t3 u (by simp)).2)
    · have := (recOf l [x, y, z, u]).body_length
      simp only [Nat.reducePow] at hv2
      show (recOf l [x, y, z, u]).body.length < 65536
      omega
theorem decR_enc {s : StatP} (hf : s.Fits) (hs : s.err = 0) : decR s.enc = (s, 0) := by
  obtain ⟨ht, hb⟩ := StatP.err_zero hs
  have hl := s.enc_length
  have hz : 49 ≤ s.size := by unfold StatP.size; omega
  have hbl := s.body_length
  generalize hL : s.enc = l at *
  have e0 : l = [] ++ (le (s.size - 2) 2 ++ (le s.typ 2 ++ (le s.dev 4 ++ (le s.qid.kind 1 ++ (le s.qid.vers 4 ++ (le s.qid.path 8 ++ (le s.mode 4 ++ (le s.atime 4 ++ (le s.mtime 4 ++ (le s.length 8 ++ (txts s.texts ++ []))))))))))) := by
    rw [← hL, enc_eq]
    simp [StatP.nums]
  obtain ⟨g1, g2, ⟨g3, g4, g5⟩, g6, g7, g8, g9⟩ := hf
  obtain ⟨f0, e1, k1⟩ := field_at (k := 0) e0 rfl (by simp only [Nat.reducePow]; omega)
  obtain ⟨f1, e2, k2⟩ := field_at e1 k1 g1
  obtain ⟨f2, e3, k3⟩ := field_at e2 k2 g2
  obtain ⟨f3, e4, k4⟩ := field_at e3 k3 g3
  obtain ⟨f4, e5, k5⟩ := field_at e4 k4 g4
  obtain ⟨f5, e6, k6⟩ := field_at e5 k5 g5
  obtain ⟨f6, e7, k7⟩ := field_at e6 k6 g6
  obtain ⟨f7, e8, k8⟩ := field_at e7 k7 g7
  obtain ⟨f8, e9, k9⟩ := field_at e8 k8 g8
  obtain ⟨f9, e10, k10⟩ := field_at e9 k9 g9
  simp only [Nat.reduceAdd, Nat.zero_add] at f0 f1 f2 f3 f4 f5 f6 f7 f8 f9 k10
  have ed : l.drop 41 = txts s.texts ++ [] := by
    rw [e10, List.drop_append_of_le_length (by omega), List.drop_of_length_le (by omega), List.nil_append]
  have ex := txts_of l s.texts 41 (by omega) ht [] ed
  rw [show s.texts.length = 4 from rfl] at ex
  unfold decR
  rw [if_neg (by omega), if_neg (by rw [f0]; omega), ex]
  simp only [List.length_nil, Nat.sub_zero]
  rw [if_neg (by simp)]
  unfold recOf
  rw [f1, f2, f3, f4, f5, f6, f7, f8, f9]
  simp only [StatP.texts, List.map_cons, List.map_nil, List.getD_cons_zero, List.getD_cons_succ, strOf_list]
theorem decR_eq (l : List UInt8) : decR l = decode l := by
  rcases decode_two l with h | h
  · obtain ⟨h1, h2, h3⟩ := decode_of h
    have e := decR_enc h2 h3
    rw [← h1] at e
    rw [e, ← h]
  · rcases decR_two l with k | k
    · obtain ⟨h1, h2, h3⟩ := decR_of k
      have e := decode_enc h2 h3
      rw [← h1, h] at e
      have e2 := congrArg Prod.snd e
      cases e2
    · rw [k, h]
/-- A reader of all of it that stands at a place. -/
def rsAt (l : List UInt8) (p : Nat) : RSt := ⟨l, p, 0, 0, 0⟩
theorem recs_fail {l : List UInt8} {p : Nat} (h : (rsAt l p).stat.2.err = 0 → False) : recs (rsAt l p) = [] := recs_err (fun e => h e)
theorem rs_on {l : List UInt8} {p : Nat} (h : (rsAt l p).stat.2.err = 0) : l.drop p = (rsAt l p).stat.1.enc ++ l.drop (p + (rsAt l p).stat.1.size) ∧ (rsAt l p).stat.1.Fits ∧ (rsAt l p).stat.1.err = 0 ∧ (rsAt l p).stat.2 = rsAt l (p + (rsAt l p).stat.1.size) := by
  obtain ⟨h1, h2, h3, h4⟩ := RSt.stat_of h
  refine ⟨?_, h2, h3, by rw [h4]; rfl⟩
  have := h1.rest
  rw [h4] at this
  exact this
theorem enc_two (s : StatP) (r : List UInt8) (hs : s.err = 0) : val ((s.enc ++ r).take 2) + 2 = s.size := by
  obtain ⟨-, hb⟩ := StatP.err_zero hs
  have hbl := s.body_length
  have e : (s.enc ++ r).take 2 = le s.body.length 2 := by
    unfold StatP.enc txt
    rw [List.append_assoc, List.take_append_of_le_length (by simp [le_length]), List.take_of_length_le (by simp [le_length])]
  rw [e, val_le_of (by simpa using hb)]
  omega
theorem rs_short {l : List UInt8} {p : Nat} (hp : l.length < p + 2) : recs (rsAt l p) = [] := by
  refine recs_fail fun h => ?_
  obtain ⟨h1, -, -, -⟩ := rs_on h
  have hz : 49 ≤ (rsAt l p).stat.1.size := by unfold StatP.size; omega
  have := congrArg List.length h1
  simp only [List.length_append, List.length_drop, StatP.enc_length] at this
  omega
theorem rs_bad {l : List UInt8} {p n : Nat} (hn : val ((l.drop p).take 2) + 2 = n) (hb : l.length < p + n ∨ (decode ((l.drop p).take n)).2 ≠ 0) : recs (rsAt l p) = [] := by
  refine recs_fail fun h => ?_
  obtain ⟨h1, h2, h3, -⟩ := rs_on h
  generalize (rsAt l p).stat.1 = s at *
  rw [h1] at hn hb
  rw [enc_two s _ h3] at hn
  subst hn
  have hl := s.enc_length
  rcases hb with hb | hb
  · have := congrArg List.length h1
    simp only [List.length_append, List.length_drop, StatP.enc_length] at this
    have hz : 49 ≤ s.size := by unfold StatP.size; omega
    omega
  · rw [List.take_append_of_le_length (by omega), List.take_of_length_le (by omega), decode_enc h2 h3] at hb
    exact hb rfl
theorem rs_good {l : List UInt8} {p n : Nat} (hl : p + n ≤ l.length) (hd : (decode ((l.drop p).take n)).2 = 0) : recs (rsAt l p) = (p, (decode ((l.drop p).take n)).1) :: recs (rsAt l (p + n)) ∧ (decode ((l.drop p).take n)).1.size = n := by
  obtain ⟨h1, h2, h3⟩ := decode_of hd
  generalize (decode ((l.drop p).take n)).1 = s at *
  have hs := s.enc_length
  have hz : 49 ≤ s.size := by unfold StatP.size; omega
  have hlen := congrArg List.length h1
  simp only [List.length_take, List.length_drop] at hlen
  have hn : s.size = n := by omega
  have e : l.drop p = s.enc ++ l.drop (p + n) := by
    rw [← h1, ← List.drop_drop]
    exact (List.take_append_drop n _).symm
  obtain ⟨k1, k2⟩ := RSt.stat_on (S := rsAt l p) (s := s) (r := l.drop (p + n)) ⟨rfl, e⟩ h2 h3
  have hleft : (rsAt l p).left ≠ 0 := by
    unfold RSt.left rsAt
    simp only
    rw [if_neg (by simp)]
    omega
  refine ⟨?_, hn⟩
  rw [recs_next hleft (by rw [k1]; exact k2.err), k1, hn]
  simp only [rsAt, RSt.step, Nat.zero_add]
end Go.Proofs.YtnpokdbpmnkbjaaGreatDoor
