/- Entries of a dump as plain data: their bytes, and what is read of bytes. No program. -/
import Derived.Test.YtmcekhgmmocajaaDoorSo
namespace Go.Proofs.YtmcekhgmmocajaaDoor

structure EntP where
  path : ByteArray
  mode : Nat
  mtime : Nat
  gid : ByteArray
  data : List UInt8
structure EntP.Fits (e : EntP) : Prop where
  mode : e.mode < 4294967296
  mtime : e.mtime < 4294967296
/-- What can be written and read again. -/
structure EntP.Fine (e : EntP) : Prop extends e.Fits where
  path : textErr e.path = 0
  gid : textErr e.gid = 0
  data : e.data.length ≤ 65536
namespace EntP
def enc (e : EntP) : List UInt8 := txt e.path.data.toList ++ le e.mode 4 ++ le e.mtime 4 ++ txt e.gid.data.toList ++ le e.data.length 4 ++ e.data
def size (e : EntP) : Nat := 16 + e.path.size + e.gid.size + e.data.length
theorem enc_length (e : EntP) : e.enc.length = e.size := by
  simp only [enc, size, List.length_append, le_length, txt_length, Array.length_toList, ByteArray.size_data]
  omega
end EntP
def encL (l : List EntP) : List UInt8 := l.flatMap EntP.enc
def sizeL (l : List EntP) : Nat := (l.map EntP.size).sum
theorem encL_snoc (l : List EntP) (e : EntP) : encL (l ++ [e]) = encL l ++ e.enc := by simp [encL]
theorem encL_length (l : List EntP) : (encL l).length = sizeL l := by
  induction l with
  | nil => rfl
  | cons e l ih => 
    show (e.enc ++ encL l).length = _
    rw [List.length_append, e.enc_length, ih]
    simp [sizeL]
def headD : List UInt8 := [118, 100, 117, 109, 112, 49, 10]
def bodyD (l : List EntP) : List UInt8 := headD ++ le l.length 4 ++ encL l
theorem bodyD_length (l : List EntP) : (bodyD l).length = 11 + sizeL l := by
  simp [bodyD, headD, le_length, encL_length]
  omega

/- The sum. -/
def mulS (x : Nat) : Nat := (x * 11800147728694460525) % 18446744073709551616
def shS (x : Nat) : Nat := x ^^^ (x >>> 29)
def stepS (h n : Nat) : Nat := shS (mulS (h ^^^ n))
def sumF (l : List UInt8) (h : Nat) : Nat := l.foldl (fun h b => stepS h (b.toNat + 1)) h
def sumD (l : List UInt8) : Nat := stepS (stepS (sumF l 7880330927811272263) l.length) 0
theorem mulS_lt (x : Nat) : mulS x < 18446744073709551616 := Nat.mod_lt _ (by decide)
theorem shS_lt {x : Nat} (h : x < 18446744073709551616) : shS x < 18446744073709551616 :=
  Nat.xor_lt_two_pow (n := 64) h (Nat.lt_of_le_of_lt (Nat.shiftRight_le _ _) h)
theorem stepS_lt (h n : Nat) : stepS h n < 18446744073709551616 := shS_lt (mulS_lt _)
theorem sumD_lt (l : List UInt8) : sumD l < 18446744073709551616 := stepS_lt _ _
def fullD (l : List EntP) : List UInt8 := bodyD l ++ le (sumD (bodyD l)) 8
theorem fullD_length (l : List EntP) : (fullD l).length = 19 + sizeL l := by
  simp [fullD, bodyD_length, le_length]
  omega

/- The writer. -/
def WSt.entry (S : WSt) (e : EntP) : WSt :=
  (((((S.text e.path.data.toList).put (le e.mode 4)).put (le e.mtime 4)).text e.gid.data.toList).put (le e.data.length 4)).put e.data
theorem WSt.lay_nil (S : WSt) : S.lay [] = S := by simp [WSt.lay]
theorem WSt.lay_lay (S : WSt) (a b : List UInt8) : (S.lay a).lay b = S.lay (a ++ b) := by simp [WSt.lay]
theorem WSt.entry_fits {S : WSt} {e : EntP} (h0 : S.err = 0) (hs : e.Fine) (hf : S.bytes.length + e.size ≤ S.limit) : S.entry e = S.lay e.enc := by
  have hl := e.enc_length
  simp only [EntP.enc, List.length_append, le_length, txt_length] at hl
  unfold WSt.entry
  have b1 := S.lay_text [] e.path h0 hs.path (by simp only [List.length_append, List.length_nil, txt_length]; omega)
  rw [S.lay_nil] at b1
  rw [b1]
  rw [S.lay_put _ (le e.mode 4) h0 (by simp only [List.length_append, List.length_nil, le_length, txt_length]; omega)]
  rw [S.lay_put _ (le e.mtime 4) h0 (by simp only [List.length_append, List.length_nil, le_length, txt_length]; omega)]
  rw [S.lay_text _ e.gid h0 hs.gid (by simp only [List.length_append, List.length_nil, le_length, txt_length]; omega)]
  rw [S.lay_put _ (le e.data.length 4) h0 (by simp only [List.length_append, List.length_nil, le_length, txt_length]; omega)]
  rw [S.lay_put _ e.data h0 (by simp only [List.length_append, List.length_nil, le_length, txt_length]; omega)]
  rw [List.nil_append]
  rfl
theorem WSt.put_stuck {S : WSt} (bs : List UInt8) (h : S.err ≠ 0) : (S.put bs) = S := if_pos h
theorem WSt.text_stuck {S : WSt} (l : List UInt8) (h : S.err ≠ 0) : (S.text l) = S := if_pos h
theorem WSt.entry_stuck {S : WSt} (e : EntP) (h : S.err ≠ 0) : S.entry e = S := by
  unfold WSt.entry
  rw [WSt.text_stuck _ h, WSt.put_stuck _ h, WSt.put_stuck _ h, WSt.text_stuck _ h, WSt.put_stuck _ h, WSt.put_stuck _ h]
theorem WSt.Wf.entry {S : WSt} (h : S.Wf) (e : EntP) : (S.entry e).Wf := (((((h.text _).put _).put _).text _).put _).put _
def WSt.entries (S : WSt) (l : List EntP) : WSt := l.foldl WSt.entry S
theorem WSt.entries_snoc (S : WSt) (l : List EntP) (e : EntP) : S.entries (l ++ [e]) = (S.entries l).entry e := by simp [WSt.entries]
theorem WSt.entries_stuck {S : WSt} (h : S.err ≠ 0) : ∀ (l : List EntP), S.entries l = S
  | [] => rfl
  | e :: l => by
    show (S.entry e).entries l = S
    rw [WSt.entry_stuck e h]
    exact WSt.entries_stuck h l
theorem WSt.entries_fits : ∀ (l : List EntP) {S : WSt}, S.err = 0 → (∀ e ∈ l, e.Fine) → S.bytes.length + sizeL l ≤ S.limit → S.entries l = S.lay (encL l)
  | [], S, _, _, _ => (S.lay_nil).symm
  | e :: l, S, h0, hs, hf => by
    have hz : sizeL (e :: l) = e.size + sizeL l := by simp [sizeL]
    show (S.entry e).entries l = _
    rw [WSt.entry_fits h0 (hs e (by simp)) (by omega)]
    rw [WSt.entries_fits l (S := S.lay e.enc) h0 (fun x hx => hs x (by simp [hx])) (by simp only [WSt.lay, List.length_append, e.enc_length]; omega), WSt.lay_lay]
    rfl
/-- Nothing grows a writer without bytes. -/
theorem WSt.grows_put (S : WSt) (bs : List UInt8) : (S.put bs).err = 0 → (S.put bs).bytes.length = S.bytes.length + bs.length ∧ (S.put bs).limit = S.limit ∧ S.err = 0 ∧ (S.put bs).bytes.length ≤ S.limit := by
  unfold WSt.put
  split
  · intro h; contradiction
  · split
    · intro h; cases h
    · intro h
      refine ⟨by simp, rfl, h, ?_⟩
      simp; omega
theorem WSt.grows_text (S : WSt) (l : List UInt8) : (S.text l).err = 0 → (S.text l).bytes.length = S.bytes.length + 2 + l.length ∧ (S.text l).limit = S.limit ∧ S.err = 0 := by
  unfold WSt.text
  split
  · intro h; contradiction
  · split
    · intro h; cases h
    · split
      · intro h; cases h
      · intro h
        obtain ⟨h1, h2, h3, _⟩ := WSt.grows_put _ _ h
        refine ⟨by rw [h1, List.length_append, le_length]; omega, h2, h3⟩
theorem WSt.grows_entry (S : WSt) (e : EntP) (h : (S.entry e).err = 0) : (S.entry e).bytes.length = S.bytes.length + e.size ∧ (S.entry e).limit = S.limit ∧ S.err = 0 := by
  unfold WSt.entry at h ⊢
  obtain ⟨a1, a2, a3, _⟩ := WSt.grows_put _ _ h
  obtain ⟨b1, b2, b3, _⟩ := WSt.grows_put _ _ a3
  obtain ⟨c1, c2, c3⟩ := WSt.grows_text _ _ b3
  obtain ⟨d1, d2, d3, _⟩ := WSt.grows_put _ _ c3
  obtain ⟨e1, e2, e3, _⟩ := WSt.grows_put _ _ d3
  obtain ⟨f1, f2, f3⟩ := WSt.grows_text _ _ e3
  refine ⟨?_, by rw [a2, b2, c2, d2, e2, f2], f3⟩
  rw [a1, b1, c1, d1, e1, f1]
  simp only [le_length, EntP.size, Array.length_toList, ByteArray.size_data]
  omega
theorem WSt.grows_entries : ∀ (l : List EntP) (S : WSt), (S.entries l).err = 0 → (S.entries l).bytes.length = S.bytes.length + sizeL l ∧ (S.entries l).limit = S.limit ∧ S.err = 0
  | [], S, h => ⟨rfl, rfl, h⟩
  | e :: l, S, h => by
    obtain ⟨h1, h2, h3⟩ := WSt.grows_entries l (S.entry e) h
    obtain ⟨k1, k2, k3⟩ := WSt.grows_entry S e h3
    refine ⟨?_, h2.trans k2, k3⟩
    show ((S.entry e).entries l).bytes.length = _
    rw [h1, k1]
    simp [sizeL]
    omega
/-- The writer ahead of the sum. -/
def wroteD (l : List EntP) : WSt := (((⟨16777216, [], [], 0⟩ : WSt).put headD).put (le l.length 4)).entries l
theorem wroteD_fits (l : List EntP) (hs : ∀ e ∈ l, e.Fine) (hf : 11 + sizeL l ≤ 16777216) : wroteD l = ⟨16777216, bodyD l, [], 0⟩ := by
  unfold wroteD
  have e1 : (⟨16777216, [], [], 0⟩ : WSt).put headD = ⟨16777216, headD, [], 0⟩ := rfl
  rw [e1]
  have e2 : (⟨16777216, headD, [], 0⟩ : WSt).put (le l.length 4) = ⟨16777216, headD ++ le l.length 4, [], 0⟩ := by
    rw [WSt.put_fits _ rfl (by simp [headD, le_length])]
  rw [e2, WSt.entries_fits l rfl hs (by simp [headD, le_length]; omega)]
  rfl
theorem wroteD_full (l : List EntP) (hf : 16777216 < 11 + sizeL l) : (wroteD l).err ≠ 0 := by
  intro h
  obtain ⟨h1, h2, h3⟩ := WSt.grows_entries l _ h
  have hw : (wroteD l).Wf := by
    have w0 : (⟨16777216, [], [], 0⟩ : WSt).Wf := ⟨Nat.le_refl _, Nat.zero_le _, by simp, Nat.le_refl _, by simp⟩
    have : ∀ (l : List EntP) (S : WSt), S.Wf → (S.entries l).Wf := by
      intro l
      induction l with
      | nil => intro S h; exact h
      | cons e l ih => intro S h; exact ih _ (h.entry e)
    exact this l _ ((w0.put _).put _)
  have := hw.bytes
  have e1 : (⟨16777216, [], [], 0⟩ : WSt).put headD = ⟨16777216, headD, [], 0⟩ := rfl
  have e2 : (⟨16777216, headD, [], 0⟩ : WSt).put (le l.length 4) = ⟨16777216, headD ++ le l.length 4, [], 0⟩ := by
    rw [WSt.put_fits _ rfl (by simp [headD, le_length])]
  rw [e1, e2] at h1 h2
  unfold wroteD at this
  rw [e1, e2, h1, h2] at this
  simp [headD, le_length] at this
  omega

/- The reader. -/
def RSt.entry (S : RSt) : EntP × RSt :=
  let a := S.text
  let b := a.2.get 4
  let c := b.2.get 4
  let d := c.2.text
  let n := d.2.get 4
  let x := n.2.raw (n.1 : Int)
  (⟨strOf a.1, b.1, c.1, strOf d.1, x.1⟩, x.2)
theorem RSt.raw_on {S : RSt} {l r : List UInt8} (h : S.On (l ++ r)) : S.raw (l.length : Int) = (l, S.step l.length) ∧ (S.step l.length).On r := by
  obtain ⟨h0, hr⟩ := h
  refine ⟨?_, h0, ?_⟩
  · unfold RSt.raw
    rw [if_neg (by omega), if_neg (by omega), hr, if_neg (by simp only [List.length_append]; omega)]
    simp [RSt.step]
  · show S.bytes.drop (S.place + l.length) = r
    rw [← List.drop_drop]
    show S.rest.drop l.length = r
    rw [hr]
    exact List.drop_left
theorem strOf_data (s : ByteArray) : strOf s.data.toList = s := by simp [strOf]
theorem RSt.entry_on {S : RSt} {e : EntP} {r : List UInt8} (he : e.Fine) (h : S.On (e.enc ++ r)) : S.entry = (e, S.step e.size) ∧ (S.step e.size).On r := by
  obtain ⟨p1, p2⟩ := textErr_zero he.path
  obtain ⟨g1, g2⟩ := textErr_zero he.gid
  have hd := he.data
  unfold EntP.enc at h
  simp only [List.append_assoc] at h
  obtain ⟨a1, a2⟩ := RSt.text_on h p1 p2
  obtain ⟨b1, b2⟩ := RSt.get_on a2 (show e.mode < 256 ^ 4 from he.mode)
  obtain ⟨c1, c2⟩ := RSt.get_on b2 (show e.mtime < 256 ^ 4 from he.mtime)
  obtain ⟨d1, d2⟩ := RSt.text_on c2 g1 g2
  obtain ⟨n1, n2⟩ := RSt.get_on d2 (show e.data.length < 256 ^ 4 by omega)
  obtain ⟨x1, x2⟩ := RSt.raw_on n2
  have hz : ∀ (T : RSt), ((((((T.step (2 + e.path.data.toList.length)).step 4).step 4).step (2 + e.gid.data.toList.length)).step 4).step e.data.length) = T.step e.size := by
    intro T
    simp only [RSt.step, EntP.size, Array.length_toList, ByteArray.size_data]
    congr 1
    omega
  refine ⟨?_, by rw [hz] at x2; exact x2⟩
  unfold RSt.entry
  simp only [a1, b1, c1, d1, n1, x1, strOf_data, hz]
/-- So many entries, behind those. -/
def readN : Nat → List EntP → RSt → Option (List EntP)
  | 0, l, _ => some l
  | n + 1, l, S => if S.entry.2.err ≠ 0 then none else readN n (l ++ [S.entry.1]) S.entry.2
theorem readN_on : ∀ (l : List EntP) (a : List EntP) (S : RSt) (r : List UInt8), (∀ e ∈ l, e.Fine) → S.On (encL l ++ r) → readN l.length a S = some (a ++ l)
  | [], a, S, r, _, _ => by simp [readN]
  | e :: l, a, S, r, he, h => by
    have h' : S.On (e.enc ++ (encL l ++ r)) := by
      rw [← List.append_assoc]
      exact h
    obtain ⟨h1, h2⟩ := RSt.entry_on (he e (by simp)) h'
    show readN (l.length + 1) a S = _
    unfold readN
    rw [h1, if_neg (by rw [h2.err]; simp)]
    rw [readN_on l (a ++ [e]) _ r (fun x hx => he x (by simp [hx])) h2]
    simp
/-- What is read of bytes; none: it is broken. -/
def readD (b : List UInt8) : Option (List EntP) :=
  let a := (⟨b, 0, 0, 0, 0⟩ : RSt).raw 7
  if a.1 = headD then (let n := a.2.get 4; readN n.1 [] n.2) else none
theorem readD_on (l : List EntP) (r : List UInt8) (he : ∀ e ∈ l, e.Fine) (hl : l.length < 4294967296) : readD (bodyD l ++ r) = some l := by
  have h0 : (⟨bodyD l ++ r, 0, 0, 0, 0⟩ : RSt).On (headD ++ (le l.length 4 ++ (encL l ++ r))) := ⟨rfl, by simp [RSt.rest, bodyD]⟩
  obtain ⟨h1, h2⟩ := RSt.raw_on h0
  obtain ⟨h3, h4⟩ := RSt.get_on h2 (show l.length < 256 ^ 4 from hl)
  unfold readD
  have h1' : (⟨bodyD l ++ r, 0, 0, 0, 0⟩ : RSt).raw 7 = _ := h1
  simp only [h1', h3, if_true]
  rw [readN_on l [] _ r he h4]
  rfl
end Go.Proofs.YtmcekhgmmocajaaDoor
