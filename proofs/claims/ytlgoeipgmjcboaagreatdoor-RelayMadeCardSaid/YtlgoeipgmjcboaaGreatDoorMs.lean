/- Records as plain data: what the calls of layer 2 write and read; what is written is read again, and what is read is just what is written. No program. | A message as plain data: which fields a kind uses; is a field good; how many bytes it has; why a message can't be written, and how many bytes its frame has; what kind answers a request. No program. -/
import Derived.Test.YtlgoeipgmjcboaaGreatDoorRead
namespace Go.Proofs.YtlgoeipgmjcboaaGreatDoor

structure QidP where
  kind : Nat
  vers : Nat
  path : Nat
structure StatP where
  typ : Nat
  dev : Nat
  qid : QidP
  mode : Nat
  atime : Nat
  mtime : Nat
  length : Nat
  name : ByteArray
  uid : ByteArray
  gid : ByteArray
  muid : ByteArray
structure QidP.Fits (q : QidP) : Prop where
  kind : q.kind < 256
  vers : q.vers < 4294967296
  path : q.path < 18446744073709551616
structure StatP.Fits (s : StatP) : Prop where
  typ : s.typ < 65536
  dev : s.dev < 4294967296
  qid : s.qid.Fits
  mode : s.mode < 4294967296
  atime : s.atime < 4294967296
  mtime : s.mtime < 4294967296
  length : s.length < 18446744073709551616
def QidP.zero : QidP := ⟨0, 0, 0⟩
def StatP.zero : StatP := ⟨0, 0, QidP.zero, 0, 0, 0, 0, ⟨#[]⟩, ⟨#[]⟩, ⟨#[]⟩, ⟨#[]⟩⟩

def txt (l : List UInt8) : List UInt8 := le l.length 2 ++ l
theorem txt_length (l : List UInt8) : (txt l).length = 2 + l.length := by simp [txt, le_length]

namespace StatP
def texts (s : StatP) : List ByteArray := [s.name, s.uid, s.gid, s.muid]
def size (s : StatP) : Nat := 49 + s.name.size + s.uid.size + s.gid.size + s.muid.size
def body (s : StatP) : List UInt8 :=
  le s.typ 2 ++ le s.dev 4 ++ le s.qid.kind 1 ++ le s.qid.vers 4 ++ le s.qid.path 8 ++ le s.mode 4 ++ le s.atime 4 ++ le s.mtime 4 ++ le s.length 8 ++
    txt s.name.data.toList ++ txt s.uid.data.toList ++ txt s.gid.data.toList ++ txt s.muid.data.toList
/-- The record's bytes. -/
def enc (s : StatP) : List UInt8 := txt s.body
theorem body_length (s : StatP) : s.body.length + 2 = s.size := by
  simp only [body, size, List.length_append, le_length, txt_length, Array.length_toList, ByteArray.size_data]
  omega
theorem enc_length (s : StatP) : s.enc.length = s.size := by
  rw [enc, txt_length, ← body_length]
  omega
end StatP
/-- What is wrong with a text; 0: nothing. -/
def textErr (t : ByteArray) : Nat := if 65535 < t.size then 13 else if Tx.good t.data.toList = true then 0 else 12
def firstErr : List ByteArray → Nat
  | [] => 0
  | t :: r => if textErr t ≠ 0 then textErr t else firstErr r
/-- Why a record can't be written; 0: it can. -/
def StatP.err (s : StatP) : Nat := if firstErr s.texts ≠ 0 then firstErr s.texts else if 65535 < s.size - 2 then 13 else 0
def StatP.encode (s : StatP) : List UInt8 × Nat := if s.err ≠ 0 then ([], s.err) else (s.enc, 0)

theorem textErr_zero {t : ByteArray} (h : textErr t = 0) : t.data.toList.length < 65536 ∧ Tx.good t.data.toList = true := by
  unfold textErr at h
  split at h
  · omega
  · split at h
    · refine ⟨?_, by assumption⟩
      simp only [Array.length_toList, ByteArray.size_data]
      omega
    · omega
theorem textErr_of {t : ByteArray} (h : t.data.toList.length < 65536) (hg : Tx.good t.data.toList = true) : textErr t = 0 := by
  simp only [Array.length_toList, ByteArray.size_data] at h
  unfold textErr
  rw [if_neg (by omega), if_pos hg]
theorem firstErr_zero {l : List ByteArray} : firstErr l = 0 ↔ ∀ t ∈ l, textErr t = 0 := by
  induction l with
  | nil => simp [firstErr]
  | cons t r ih =>
    simp only [firstErr, List.mem_cons, forall_eq_or_imp]
    by_cases h : textErr t = 0
    · simp [h, ih]
    · simp [h]
theorem StatP.err_zero {s : StatP} (h : s.err = 0) : (∀ t ∈ s.texts, textErr t = 0) ∧ s.body.length < 65536 := by
  have hb := s.body_length
  unfold StatP.err at h
  by_cases hf : firstErr s.texts = 0
  · rw [if_neg (by omega)] at h
    refine ⟨firstErr_zero.1 hf, ?_⟩
    by_cases hs : 65535 < s.size - 2
    · rw [if_pos hs] at h
      omega
    · omega
  · rw [if_pos hf] at h
    exact absurd h hf
theorem StatP.err_of {s : StatP} (h : ∀ t ∈ s.texts, textErr t = 0) (hb : s.body.length < 65536) : s.err = 0 := by
  have := s.body_length
  unfold StatP.err
  rw [firstErr_zero.2 h, if_neg (by omega), if_neg (by omega)]

/- A writer. -/
def WSt.qid (S : WSt) (q : QidP) : WSt := ((S.put (le q.kind 1)).put (le q.vers 4)).put (le q.path 8)
def WSt.stat (S : WSt) (s : StatP) : WSt :=
  (((((((((((S.opn.1.put (le s.typ 2)).put (le s.dev 4)).qid s.qid).put (le s.mode 4)).put (le s.atime 4)).put (le s.mtime 4)).put (le s.length 8)).text s.name.data.toList).text s.uid.data.toList).text s.gid.data.toList).text s.muid.data.toList).shut S.opn.2
theorem WSt.Wf.qid {S : WSt} (h : S.Wf) (q : QidP) : (S.qid q).Wf := ((h.put _).put _).put _
theorem WSt.Wf.stat {S : WSt} (h : S.Wf) (s : StatP) : (S.stat s).Wf := by
  unfold WSt.stat
  exact ((((((((((((h.opn.put _).put _).qid _).put _).put _).put _).put _).text _).text _).text _).text _).shut _)

def WSt.lay (S : WSt) (bs : List UInt8) : WSt := { S with bytes := S.bytes ++ bs }
theorem WSt.lay_put (S : WSt) (c bs : List UInt8) (h0 : S.err = 0) (hf : S.bytes.length + (c ++ bs).length ≤ S.limit) : (S.lay c).put bs = S.lay (c ++ bs) := by
  rw [WSt.put_fits _ (show (S.lay c).err = 0 from h0) (by simp only [WSt.lay, List.length_append] at hf ⊢; omega)]
  simp [WSt.lay]
theorem WSt.lay_text (S : WSt) (c : List UInt8) (t : ByteArray) (h0 : S.err = 0) (ht : textErr t = 0) (hf : S.bytes.length + (c ++ txt t.data.toList).length ≤ S.limit) : (S.lay c).text t.data.toList = S.lay (c ++ txt t.data.toList) := by
  obtain ⟨h1, h2⟩ := textErr_zero ht
  have e : (S.lay c).text t.data.toList = (S.lay c).put (le t.data.toList.length 2 ++ t.data.toList) := by
    unfold WSt.text
    rw [if_neg (by show ¬ S.err ≠ 0; omega), if_neg (by omega), if_neg (by simp [h2])]
  rw [e]
  exact WSt.lay_put S c _ h0 hf
theorem set_two (a b : List UInt8) (x y u v : UInt8) : ((a ++ [u, v] ++ b).set a.length x).set (a.length + 1) y = a ++ [x, y] ++ b := by
  simp [List.append_assoc]
theorem WSt.opn_fits {S : WSt} (h0 : S.err = 0) (hf : S.bytes.length + 2 ≤ S.limit) : S.opn = ({ S with bytes := S.bytes ++ [0, 0], opens := S.opens ++ [S.bytes.length] }, S.bytes.length) := by
  have e := WSt.put_fits (S := S) [0, 0] h0 (by simp; omega)
  unfold WSt.opn
  rw [e]
  rw [if_neg (by show ¬ S.err ≠ 0; omega)]
theorem WSt.stat_fits {S : WSt} {s : StatP} (h0 : S.err = 0) (hs : s.err = 0) (hf : S.bytes.length + s.size ≤ S.limit) : S.stat s = S.lay s.enc := by
  obtain ⟨ht, hb⟩ := StatP.err_zero hs
  have hl := s.body_length
  have t1 := ht s.name (by simp [StatP.texts])
  have t2 := ht s.uid (by simp [StatP.texts])
  have t3 := ht s.gid (by simp [StatP.texts])
  have t4 := ht s.muid (by simp [StatP.texts])
  have hl' := hl
  simp only [StatP.body, List.length_append, le_length, txt_length] at hl'
  have ho := WSt.opn_fits (S := S) h0 (by omega)
  generalize hS : ({ S with bytes := S.bytes ++ [0, 0], opens := S.opens ++ [S.bytes.length] } : WSt) = S1 at ho
  have e0 : S1.err = 0 := by rw [← hS]; exact h0
  have eb : S1.bytes.length = S.bytes.length + 2 := by rw [← hS]; simp
  have em : S1.limit = S.limit := by rw [← hS]
  unfold WSt.stat WSt.qid
  rw [ho]
  simp only
  have e1 : S1 = S1.lay [] := by simp [WSt.lay]
  have step : S1.lay [] = S1 := e1.symm
  have b1 := S1.lay_put [] (le s.typ 2) e0 (by simp only [List.length_append, List.length_nil, le_length]; omega)
  rw [step] at b1
  rw [b1]
  rw [S1.lay_put _ (le s.dev 4) e0 (by simp only [List.length_append, List.length_nil, le_length]; omega)]
  rw [S1.lay_put _ (le s.qid.kind 1) e0 (by simp only [List.length_append, List.length_nil, le_length]; omega)]
  rw [S1.lay_put _ (le s.qid.vers 4) e0 (by simp only [List.length_append, List.length_nil, le_length]; omega)]
  rw [S1.lay_put _ (le s.qid.path 8) e0 (by simp only [List.length_append, List.length_nil, le_length]; omega)]
  rw [S1.lay_put _ (le s.mode 4) e0 (by simp only [List.length_append, List.length_nil, le_length]; omega)]
  rw [S1.lay_put _ (le s.atime 4) e0 (by simp only [List.length_append, List.length_nil, le_length]; omega)]
  rw [S1.lay_put _ (le s.mtime 4) e0 (by simp only [List.length_append, List.length_nil, le_length]; omega)]
  rw [S1.lay_put _ (le s.length 8) e0 (by simp only [List.length_append, List.length_nil, le_length]; omega)]
  rw [S1.lay_text _ s.name e0 t1 (by simp only [List.length_append, List.length_nil, le_length, txt_length]; omega)]
  rw [S1.lay_text _ s.uid e0 t2 (by simp only [List.length_append, List.length_nil, le_length, txt_length]; omega)]
  rw [S1.lay_text _ s.gid e0 t3 (by simp only [List.length_append, List.length_nil, le_length, txt_length]; omega)]
  rw [S1.lay_text _ s.muid e0 t4 (by simp only [List.length_append, List.length_nil, le_length, txt_length]; omega)]
  have eB : [] ++ le s.typ 2 ++ le s.dev 4 ++ le s.qid.kind 1 ++ le s.qid.vers 4 ++ le s.qid.path 8 ++ le s.mode 4 ++ le s.atime 4 ++ le s.mtime 4 ++ le s.length 8 ++
    txt s.name.data.toList ++ txt s.uid.data.toList ++ txt s.gid.data.toList ++ txt s.muid.data.toList = s.body := by rw [List.nil_append]; rfl
  rw [eB, ← hS]
  unfold WSt.shut WSt.lay
  simp only [h0, ne_eq, not_true_eq_false, if_false, List.getLast?_append, List.getLast?_singleton, Option.some_or, List.length_append, List.length_cons, List.length_nil]
  rw [if_neg (by omega)]
  have eN : S.bytes.length + (0 + 1 + 1) + s.body.length - S.bytes.length - 2 = s.body.length := by omega
  simp only [eN, set_two, List.dropLast_concat]
  simp [StatP.enc, txt, le]

/- A reader. -/
def RSt.qid (S : RSt) : QidP × RSt :=
  let k := S.get 1
  let v := k.2.get 4
  let p := v.2.get 8
  (if p.2.err ≠ 0 then QidP.zero else ⟨k.1, v.1, p.1⟩, p.2)
def strOf (l : List UInt8) : ByteArray := ⟨l.toArray⟩
/-- The fields, out of a part's reader; where it stands then. -/
def RSt.fields (S : RSt) : StatP × RSt :=
  let a := S.get 2
  let b := a.2.get 4
  let c := b.2.qid
  let d := c.2.get 4
  let e := d.2.get 4
  let f := e.2.get 4
  let g := f.2.get 8
  let h := g.2.text
  let i := h.2.text
  let j := i.2.text
  let k := j.2.text
  (⟨a.1, b.1, c.1, d.1, e.1, f.1, g.1, strOf h.1, strOf i.1, strOf j.1, strOf k.1⟩, k.2.fin)
def RSt.stat (S : RSt) : StatP × RSt :=
  if S.part.1.fields.2.err ≠ 0 then (StatP.zero, S.part.2.wrong S.part.1.fields.2.err 0) else (S.part.1.fields.1, S.part.2)

def RSt.step (S : RSt) (k : Nat) : RSt := { S with place := S.place + k }
structure RSt.On (S : RSt) (r : List UInt8) : Prop where
  err : S.err = 0
  rest : S.rest = r
theorem RSt.wrong_err (S : RSt) {e : Int} (n : Nat) (h : e ≠ 0) : (S.wrong e n).err ≠ 0 := by
  unfold RSt.wrong
  by_cases h0 : S.err = 0
  · rw [if_pos ⟨h0, h⟩]
    exact h
  · rw [if_neg (by simp [h0])]
    exact h0
theorem le_val : ∀ (l : List UInt8), le (val l) l.length = l
  | [] => rfl
  | b :: l => by
    have h : UInt8.ofNat (b.toNat + 256 * val l) = b := by
      rw [UInt8.ofNat_add, UInt8.ofNat_mul]
      simp
    have hb := b.toNat_lt
    simp only [val, List.length_cons, le, h]
    rw [show (b.toNat + 256 * val l) / 256 = val l by omega, le_val l]
theorem RSt.get_of {S : RSt} {k : Nat} (h : (S.get k).2.err = 0) : S.On (le (S.get k).1 k ++ (S.get k).2.rest) ∧ (S.get k).1 < 256 ^ k ∧ (S.get k).2 = S.step k := by
  revert h
  unfold RSt.get
  by_cases h0 : S.err = 0
  · rw [if_neg (by omega)]
    by_cases hk : S.rest.length < k
    · rw [if_pos hk]
      intro h
      exact absurd h (S.wrong_err 0 (by omega))
    · rw [if_neg hk]
      intro _
      have hl : (S.rest.take k).length = k := by rw [List.length_take]; omega
      refine ⟨⟨h0, ?_⟩, ?_, rfl⟩
      · have e : le (val (S.rest.take k)) k = S.rest.take k := by
          have := le_val (S.rest.take k)
          rw [hl] at this
          exact this
        show S.rest = le (val (S.rest.take k)) k ++ S.bytes.drop (S.place + k)
        rw [e, ← List.drop_drop]
        exact (List.take_append_drop k S.rest).symm
      · have := val_lt (S.rest.take k)
        rw [hl] at this
        exact this
  · rw [if_pos h0]
    intro h
    exact absurd h h0
theorem RSt.counted_of {S : RSt} {n : Nat} (h : S.counted.1 = some n) : S.counted = (some n, S) ∧ S.On (txt (S.part2 n) ++ (S.step (2 + n)).rest) ∧ (S.part2 n).length = n ∧ n < 65536 := by
  revert h
  unfold RSt.counted
  by_cases h0 : S.err = 0
  · rw [if_neg (by omega)]
    by_cases h2 : S.rest.length < 2
    · rw [if_pos h2]
      intro h
      cases h
    · rw [if_neg h2]
      by_cases hv : S.rest.length < 2 + val (S.rest.take 2)
      · rw [if_pos hv]
        intro h
        cases h
      · rw [if_neg hv]
        intro h
        simp only [Option.some.injEq] at h
        have hl : (S.rest.take 2).length = 2 := by rw [List.length_take]; omega
        have hlt := val_lt (S.rest.take 2)
        rw [hl] at hlt
        have e : le n 2 = S.rest.take 2 := by
          have := le_val (S.rest.take 2)
          rw [hl, h] at this
          exact this
        rw [h] at hv hlt
        have hp : (S.part2 n).length = n := by
          unfold RSt.part2
          rw [List.length_take, List.length_drop]
          omega
        refine ⟨by rw [h], ⟨h0, ?_⟩, hp, by omega⟩
        rw [txt, hp, e]
        show S.rest = S.rest.take 2 ++ (S.rest.drop 2).take n ++ S.bytes.drop (S.place + (2 + n))
        rw [← List.drop_drop, ← List.drop_drop, List.append_assoc]
        show S.rest = S.rest.take 2 ++ ((S.rest.drop 2).take n ++ (S.rest.drop 2).drop n)
        rw [List.take_append_drop, List.take_append_drop]
  · rw [if_pos h0]
    intro h
    cases h
theorem RSt.counted_none {S : RSt} (h : S.counted.1 = none) : S.counted.2.err ≠ 0 := by
  revert h
  unfold RSt.counted
  by_cases h0 : S.err = 0
  · rw [if_neg (by omega)]
    split
    · intro _
      exact S.wrong_err 0 (by omega)
    · split
      · intro _
        exact S.wrong_err 0 (by omega)
      · intro h
        cases h
  · rw [if_pos h0]
    intro _
    exact h0
theorem RSt.text_of {S : RSt} (h : S.text.2.err = 0) : S.On (txt S.text.1 ++ S.text.2.rest) ∧ S.text.1.length < 65536 ∧ Tx.good S.text.1 = true ∧ S.text.2 = S.step (2 + S.text.1.length) := by
  cases hc : S.counted with
  | mk o S' =>
    cases o with
    | none =>
      have hn := RSt.counted_none (S := S) (by rw [hc])
      rw [hc] at hn
      have e : S.text = ([], S') := by unfold RSt.text; rw [hc]
      rw [e] at h
      exact absurd h hn
    | some n =>
      obtain ⟨h1, h2, h3, h4⟩ := RSt.counted_of (S := S) (n := n) (by rw [hc])
      by_cases hg : Tx.good (S.part2 n) = true
      · have e : S.text = (S.part2 n, S.step (2 + n)) := by
          unfold RSt.text
          rw [h1]
          simp only [hg, if_true]
          simp [RSt.step, Nat.add_assoc]
        rw [e]
        refine ⟨h2, ?_, hg, ?_⟩
        · show (S.part2 n).length < 65536
          omega
        · show S.step (2 + n) = S.step (2 + (S.part2 n).length)
          rw [h3]
      · have e : S.text = ([], S.wrong 12 (2 + Tx.badL (S.part2 n))) := by
          unfold RSt.text
          rw [h1]
          simp only [hg]
          rfl
        rw [e] at h
        exact absurd h (S.wrong_err _ (by omega))
theorem RSt.fin_of {S : RSt} (h : S.fin.err = 0) : S.On [] ∧ S.fin = S := by
  revert h
  unfold RSt.fin
  by_cases hp : S.place < S.bytes.length
  · rw [if_pos hp]
    intro h
    exact absurd h (S.wrong_err _ (by omega))
  · rw [if_neg hp]
    intro h
    exact ⟨⟨h, by unfold RSt.rest; exact List.drop_eq_nil_of_le (by omega)⟩, rfl⟩
theorem RSt.part_of {S : RSt} (h : S.part.1.err = 0) : S.On (txt S.part.1.bytes ++ S.part.2.rest) ∧ S.part.1.bytes.length < 65536 ∧ S.part.1.On S.part.1.bytes ∧ S.part.2 = S.step (2 + S.part.1.bytes.length) := by
  cases hc : S.counted with
  | mk o S' =>
    cases o with
    | none =>
      have hn := RSt.counted_none (S := S) (by rw [hc])
      rw [hc] at hn
      have e : S.part.1 = ⟨[], 0, S'.spot, S'.err, S'.spot⟩ := by unfold RSt.part; rw [hc]
      rw [e] at h
      exact absurd h hn
    | some n =>
      obtain ⟨h1, h2, h3, h4⟩ := RSt.counted_of (S := S) (n := n) (by rw [hc])
      have e : S.part = (⟨S.part2 n, 0, S.base + (S.place + 2), 0, 0⟩, S.step (2 + n)) := by
        unfold RSt.part
        rw [h1]
        simp [RSt.step, Nat.add_assoc]
      rw [e]
      refine ⟨h2, ?_, ⟨rfl, rfl⟩, ?_⟩
      · show (S.part2 n).length < 65536
        omega
      · show S.step (2 + n) = S.step (2 + (S.part2 n).length)
        rw [h3]

theorem RSt.step_step (S : RSt) (a b : Nat) : (S.step a).step b = S.step (a + b) := by simp [RSt.step, Nat.add_assoc]
theorem RSt.qid_of {S : RSt} (h : S.qid.2.err = 0) : S.On (le S.qid.1.kind 1 ++ (le S.qid.1.vers 4 ++ (le S.qid.1.path 8 ++ S.qid.2.rest))) ∧ S.qid.1.Fits ∧ S.qid.2 = S.step 13 := by
  obtain ⟨a3, b3, c3⟩ := RSt.get_of h
  obtain ⟨a2, b2, c2⟩ := RSt.get_of a3.err
  obtain ⟨a1, b1, c1⟩ := RSt.get_of a2.err
  have e : S.qid = (⟨(S.get 1).1, ((S.get 1).2.get 4).1, (((S.get 1).2.get 4).2.get 8).1⟩, (((S.get 1).2.get 4).2.get 8).2) := by
    have h' : ¬ (((S.get 1).2.get 4).2.get 8).2.err ≠ 0 := by
      have : (((S.get 1).2.get 4).2.get 8).2.err = 0 := h
      omega
    unfold RSt.qid
    simp only [if_neg h']
  rw [e]
  refine ⟨⟨a1.err, ?_⟩, ⟨b1, b2, b3⟩, ?_⟩
  · rw [a1.rest, a2.rest, a3.rest]
  · show (((S.get 1).2.get 4).2.get 8).2 = S.step 13
    rw [c3, c2, c1, RSt.step_step, RSt.step_step]
theorem strOf_toList (l : List UInt8) : (strOf l).data.toList = l := by simp [strOf]
theorem RSt.fields_of {S : RSt} (h : S.fields.2.err = 0) (hb : S.rest.length < 65536) : S.On S.fields.1.body ∧ S.fields.1.Fits ∧ S.fields.1.err = 0 := by
  obtain ⟨a12, c12⟩ := RSt.fin_of h
  obtain ⟨a11, l11, g11, -⟩ := RSt.text_of a12.err
  obtain ⟨a10, l10, g10, -⟩ := RSt.text_of a11.err
  obtain ⟨a9, l9, g9, -⟩ := RSt.text_of a10.err
  obtain ⟨a8, l8, g8, -⟩ := RSt.text_of a9.err
  obtain ⟨a7, b7, -⟩ := RSt.get_of a8.err
  obtain ⟨a6, b6, -⟩ := RSt.get_of a7.err
  obtain ⟨a5, b5, -⟩ := RSt.get_of a6.err
  obtain ⟨a4, b4, -⟩ := RSt.get_of a5.err
  obtain ⟨a3, b3, -⟩ := RSt.qid_of a4.err
  obtain ⟨a2, b2, -⟩ := RSt.get_of a3.err
  obtain ⟨a1, b1, -⟩ := RSt.get_of a2.err
  have hbody : S.rest = S.fields.1.body := by
    rw [a1.rest, a2.rest, a3.rest, a4.rest, a5.rest, a6.rest, a7.rest, a8.rest, a9.rest, a10.rest, a11.rest, a12.rest]
    simp only [RSt.fields, StatP.body, strOf_toList, List.append_assoc, List.append_nil]
  refine ⟨⟨a1.err, hbody⟩, ⟨b1, b2, b3, b4, b5, b6, b7⟩, StatP.err_of ?_ (by rw [← hbody]; exact hb)⟩
  intro t ht
  simp only [StatP.texts, List.mem_cons, List.not_mem_nil, or_false] at ht
  rcases ht with rfl | rfl | rfl | rfl
  · exact textErr_of (t := strOf _) (by rw [strOf_toList]; exact l8) (by rw [strOf_toList]; exact g8)
  · exact textErr_of (t := strOf _) (by rw [strOf_toList]; exact l9) (by rw [strOf_toList]; exact g9)
  · exact textErr_of (t := strOf _) (by rw [strOf_toList]; exact l10) (by rw [strOf_toList]; exact g10)
  · exact textErr_of (t := strOf _) (by rw [strOf_toList]; exact l11) (by rw [strOf_toList]; exact g11)
theorem RSt.fields_err {S : RSt} (h : S.fields.2.err = 0) : S.err = 0 := by
  obtain ⟨a12, c12⟩ := RSt.fin_of h
  exact (RSt.get_of (RSt.get_of (RSt.qid_of (RSt.get_of (RSt.get_of (RSt.get_of (RSt.get_of (RSt.text_of (RSt.text_of (RSt.text_of (RSt.text_of a12.err).1.err).1.err).1.err).1.err).1.err).1.err).1.err).1.err).1.err).1.err).1.err
theorem RSt.stat_of {S : RSt} (h : S.stat.2.err = 0) : S.On (S.stat.1.enc ++ S.stat.2.rest) ∧ S.stat.1.Fits ∧ S.stat.1.err = 0 ∧ S.stat.2 = S.step S.stat.1.size := by
  by_cases hf : S.part.1.fields.2.err = 0
  · have e : S.stat = (S.part.1.fields.1, S.part.2) := by
      unfold RSt.stat
      rw [if_neg (by omega)]
    rw [e]
    obtain ⟨a, b, c, d⟩ := RSt.part_of (RSt.fields_err hf)
    obtain ⟨f1, f2, f3⟩ := RSt.fields_of hf (by rw [c.rest]; exact b)
    have eb : S.part.1.bytes = S.part.1.fields.1.body := by rw [← f1.rest, c.rest]
    have hl := S.part.1.fields.1.body_length
    rw [eb] at a d
    generalize S.part.1.fields.1 = s at *
    rw [show 2 + s.body.length = s.size by omega] at d
    exact ⟨a, f2, f3, d⟩
  · have e : S.stat = (StatP.zero, S.part.2.wrong S.part.1.fields.2.err 0) := by
      unfold RSt.stat
      rw [if_pos hf]
    rw [e] at h
    exact absurd h (RSt.wrong_err _ _ hf)

/- Just one record. -/
def RSt.of (l : List UInt8) : RSt := ⟨l, 0, 0, 0, 0⟩
def decode (b : List UInt8) : StatP × Nat := if (RSt.of b).stat.2.fin.err ≠ 0 then (StatP.zero, 20) else ((RSt.of b).stat.1, 0)
end Go.Proofs.YtlgoeipgmjcboaaGreatDoor
namespace Go.Proofs.YtlgoeipgmjcboaaGreatDoor

structure MsgP where
  kind : Nat
  tag : Nat
  msize : Nat
  version : ByteArray
  afid : Nat
  uname : ByteArray
  aname : ByteArray
  ename : ByteArray
  oldtag : Nat
  fid : Nat
  newfid : Nat
  names : List ByteArray
  qids : List QidP
  qid : QidP
  mode : Nat
  iounit : Nat
  name : ByteArray
  perm : Nat
  offset : Nat
  count : Nat
  data : List UInt8
  stat : StatP
def MsgP.zero : MsgP := ⟨0, 0, 0, ⟨#[]⟩, 0, ⟨#[]⟩, ⟨#[]⟩, ⟨#[]⟩, 0, 0, 0, [], [], QidP.zero, 0, 0, ⟨#[]⟩, 0, 0, 0, [], StatP.zero⟩
structure MsgP.Fits (m : MsgP) : Prop where
  kind : m.kind < 256
  tag : m.tag < 65536
  msize : m.msize < 4294967296
  afid : m.afid < 4294967296
  oldtag : m.oldtag < 65536
  fid : m.fid < 4294967296
  newfid : m.newfid < 4294967296
  qids : ∀ q ∈ m.qids, q.Fits
  qid : m.qid.Fits
  mode : m.mode < 256
  iounit : m.iounit < 4294967296
  perm : m.perm < 4294967296
  offset : m.offset < 18446744073709551616
  count : m.count < 4294967296
  stat : m.stat.Fits

/-- The fields that a kind uses, in order (0 msize, 1 version, 2 afid, 3 uname, 4 aname, 5 ename, 6 oldtag, 7 fid, 8 newfid, 9 names, 10 qids, 11 qid, 12 mode, 13 iounit, 14 name, 15 perm, 16 offset, 17 count, 18 data, 19 stat). -/
def fieldsOf (k : Nat) : Option (List Nat) :=
  if k = 100 ∨ k = 101 then some [0, 1] else if k = 102 then some [2, 3, 4] else if k = 104 then some [7, 2, 3, 4] else if k = 103 ∨ k = 105 then some [11]
  else if k = 107 then some [5] else if k = 108 then some [6] else if k = 110 then some [7, 8, 9] else if k = 111 then some [10] else if k = 112 then some [7, 12]
  else if k = 113 ∨ k = 115 then some [11, 13] else if k = 114 then some [7, 14, 15, 12] else if k = 116 then some [7, 16, 17] else if k = 117 then some [18]
  else if k = 118 then some [7, 16, 18] else if k = 119 then some [17] else if k = 120 ∨ k = 122 ∨ k = 124 then some [7] else if k = 125 then some [19]
  else if k = 126 then some [7, 19] else if k = 109 ∨ k = 121 ∨ k = 123 ∨ k = 127 then some [] else none
def isGood (t : ByteArray) : Bool := Tx.good t.data.toList
def MsgP.textOf (m : MsgP) (n : Nat) : Option ByteArray :=
  if n = 1 then some m.version else if n = 3 then some m.uname else if n = 4 then some m.aname else if n = 5 then some m.ename else if n = 14 then some m.name else none
def MsgP.goodF (m : MsgP) (n : Nat) : Bool :=
  match m.textOf n with
  | some t => isGood t
  | none =>
    if n = 9 then decide (m.names.length ≤ 16) && m.names.all isGood
    else if n = 10 then decide (m.qids.length ≤ 16)
    else if n = 19 then m.stat.texts.all isGood
    else true
def MsgP.sizeF (m : MsgP) (n : Nat) : Nat :=
  match m.textOf n with
  | some t => 2 + t.size
  | none =>
    if n = 9 then 2 + (m.names.map fun s => 2 + s.size).sum
    else if n = 10 then 2 + 13 * m.qids.length
    else if n = 11 then 13
    else if n = 18 then 4 + m.data.length
    else if n = 19 then 2 + m.stat.size
    else if n = 6 then 2 else if n = 12 then 1 else if n = 16 then 8 else 4
/-- Why a message can't be written, and how many bytes its frame has. -/
def MsgP.refused (m : MsgP) : Nat × Nat :=
  match fieldsOf m.kind with
  | none => (32, 0)
  | some l => if l.all m.goodF = false then (30, 0) else if 65536 < 7 + (l.map m.sizeF).sum then (31, 0) else (0, 7 + (l.map m.sizeF).sum)
def MsgP.size (m : MsgP) : Nat := m.refused.2
def answerK (k : Nat) : Option Nat := if (fieldsOf k).isSome && decide (k % 2 = 0) then some (k + 1) else none
end Go.Proofs.YtlgoeipgmjcboaaGreatDoor
