/- What is read of bytes, plain: it fits, and each entry takes sixteen bytes at least. | dump.read, walked. -/
import Derived.Test.YtmcekhgmmocajaaGreatDoorMo
import Derived.Test.YtmcekhgmmocajaaGreatDoorEo
namespace Go.Proofs.YtmcekhgmmocajaaGreatDoor

theorem RSt.raw_of {S : RSt} {n : Nat} (h : (S.raw (n : Int)).2.err = 0) : S.err = 0 ∧ (S.raw (n : Int)).2 = S.step n ∧ (S.raw (n : Int)).1.length ≤ S.bytes.length ∧ n ≤ S.rest.length := by
  revert h
  unfold RSt.raw
  by_cases h0 : S.err = 0
  · rw [if_neg (by omega), if_neg (by omega)]
    by_cases hf : (S.rest.length : Int) < (n : Int)
    · rw [if_pos hf]
      intro h
      exact absurd h (S.wrong_err 0 (by omega))
    · rw [if_neg hf]
      intro _
      refine ⟨h0, ?_, ?_, by omega⟩
      · simp [RSt.step]
      · simp [RSt.rest]
        omega
  · rw [if_pos h0]
    intro h
    exact absurd h h0
theorem RSt.entry_of {S : RSt} (h : S.entry.2.err = 0) : ∃ m, 16 ≤ m ∧ S.entry.2 = S.step m ∧ S.err = 0 ∧ S.entry.1.Fits ∧ S.entry.1.path.size < 65536 ∧ S.entry.1.gid.size < 65536 ∧ S.entry.1.data.length ≤ S.bytes.length ∧ S.place + m ≤ S.bytes.length := by
  have hx : S.entry.2 = ((((((S.text).2.get 4).2.get 4).2.text).2.get 4).2.raw ((((((S.text).2.get 4).2.get 4).2.text).2.get 4).1 : Int)).2 := rfl
  rw [hx] at h
  obtain ⟨x0, x1, x2, x3⟩ := RSt.raw_of h
  obtain ⟨n1, n2, n3⟩ := RSt.get_of x0
  have n0 := n1.err
  obtain ⟨d1, d2, d3⟩ := RSt.text_of n0
  have d0 := d1.err
  obtain ⟨c1, c2, c3⟩ := RSt.get_of d0
  have c0 := c1.err
  obtain ⟨b1, b2, b3⟩ := RSt.get_of c0
  have b0 := b1.err
  obtain ⟨a1, a2, a3⟩ := RSt.text_of b0
  have hbytes : (((((S.text).2.get 4).2.get 4).2.text).2.get 4).2.bytes = S.bytes := by
    rw [n3, d3.2, c3, b3, a3.2]
    rfl
  refine ⟨2 + S.text.1.length + 4 + 4 + (2 + (((S.text).2.get 4).2.get 4).2.text.1.length) + 4 + ((((((S.text).2.get 4).2.get 4).2.text).2.get 4).1), by omega, ?_, a1.err, ⟨b2, c2⟩, ?_, ?_, ?_, ?_⟩
  · rw [hx, x1, n3, d3.2, c3, b3, a3.2]
    simp only [RSt.step_step]
  · show (strOf S.text.1).size < 65536
    simpa [strOf, ByteArray.size] using a2
  · show (strOf (((S.text).2.get 4).2.get 4).2.text.1).size < 65536
    simpa [strOf, ByteArray.size] using d2
  · rw [hbytes] at x2
    exact x2
  · have hr := congrArg List.length n1.rest
    rw [List.length_append, le_length] at hr
    have e1 : (((((S.text).2.get 4).2.get 4).2.text).2).rest.length = S.bytes.length - (S.place + (2 + S.text.1.length + 4 + 4 + (2 + (((S.text).2.get 4).2.get 4).2.text.1.length))) := by
      rw [d3.2, c3, b3, a3.2]
      simp only [RSt.step_step]
      simp [RSt.rest, RSt.step]
    have e2 : ((((((S.text).2.get 4).2.get 4).2.text).2.get 4).2).rest.length = S.bytes.length - (S.place + (2 + S.text.1.length + 4 + 4 + (2 + (((S.text).2.get 4).2.get 4).2.text.1.length) + 4)) := by
      rw [n3, d3.2, c3, b3, a3.2]
      simp only [RSt.step_step]
      simp [RSt.rest, RSt.step]
    omega
theorem readN_of : ∀ (n : Nat) (M : List EntP) (S : RSt) (L : List EntP), S.place ≤ S.bytes.length → M.length * 16 ≤ S.place → readN n M S = some L → L.length * 16 ≤ S.bytes.length ∧ ∀ e ∈ L, e ∈ M ∨ (e.Fits ∧ e.path.size < 65536 ∧ e.gid.size < 65536 ∧ e.data.length ≤ S.bytes.length)
  | 0, M, S, L, h1, h2, h => by
    simp only [readN, Option.some.injEq] at h
    subst h
    exact ⟨by omega, fun e he => Or.inl he⟩
  | n + 1, M, S, L, h1, h2, h => by
    unfold readN at h
    by_cases he : S.entry.2.err = 0
    · rw [if_neg (by omega)] at h
      obtain ⟨m, m1, m2, m3, m4, m5, m6, m7, m8⟩ := RSt.entry_of he
      rw [m2] at h
      obtain ⟨k1, k2⟩ := readN_of n (M ++ [S.entry.1]) (S.step m) L m8 (by simp [RSt.step]; omega) h
      refine ⟨k1, fun e he => ?_⟩
      rcases k2 e he with hh | hh
      · rcases List.mem_append.1 hh with hh | hh
        · exact Or.inl hh
        · simp only [List.mem_singleton] at hh
          subst hh
          exact Or.inr ⟨m4, m5, m6, m7⟩
      · exact Or.inr hh
    · rw [if_pos he] at h
      cases h
theorem readD_of {b : List UInt8} {L : List EntP} (h : readD b = some L) : L.length * 16 ≤ b.length ∧ ∀ e ∈ L, e.Fits ∧ e.path.size < 65536 ∧ e.gid.size < 65536 ∧ e.data.length ≤ b.length := by
  have hraw : ∀ k : Nat, ((⟨b, 0, 0, 0, 0⟩ : RSt).raw (k : Int)).2.bytes = b ∧ ((⟨b, 0, 0, 0, 0⟩ : RSt).raw (k : Int)).2.place ≤ b.length := by
    intro k
    unfold RSt.raw RSt.wrong
    repeat' split
    all_goals simp_all [RSt.rest]
    all_goals omega
  have hget : ∀ (S : RSt) (k : Nat), S.place ≤ S.bytes.length → (S.get k).2.bytes = S.bytes ∧ (S.get k).2.place ≤ S.bytes.length := by
    intro S k hS
    unfold RSt.get RSt.wrong
    repeat' split
    all_goals simp_all [RSt.rest]
    all_goals omega
  unfold readD at h
  simp only at h
  by_cases hh : ((⟨b, 0, 0, 0, 0⟩ : RSt).raw 7).1 = headD
  · rw [if_pos hh] at h
    obtain ⟨r1, r2⟩ := hraw 7
    obtain ⟨g1, g2⟩ := hget ((⟨b, 0, 0, 0, 0⟩ : RSt).raw 7).2 4 (by rw [show ((⟨b, 0, 0, 0, 0⟩ : RSt).raw 7) = ((⟨b, 0, 0, 0, 0⟩ : RSt).raw ((7 : Nat) : Int)) from rfl, r1]; exact r2)
    have hb : (((⟨b, 0, 0, 0, 0⟩ : RSt).raw 7).2.get 4).2.bytes = b := g1.trans r1
    obtain ⟨k1, k2⟩ := readN_of _ [] _ L (by rw [hb]; have := r1; rw [show ((⟨b, 0, 0, 0, 0⟩ : RSt).raw 7).2.bytes = b from r1] at g2; exact g2) (by simp) h
    rw [hb] at k1 k2
    refine ⟨k1, fun e he => ?_⟩
    rcases k2 e he with hx | hx
    · cases hx
    · exact hx
  · rw [if_neg hh] at h
    cases h
end Go.Proofs.YtmcekhgmmocajaaGreatDoor
namespace Go.Proofs.YtmcekhgmmocajaaGreatDoor
open Go.RowKit Me

def flatE (L : List EntP) (V : List Value) : List Value := (L.zip V).flatMap fun p => entC p.1 p.2
theorem entC_len (e : EntP) (v : Value) : (entC e v).length = 5 := rfl
theorem flatE_snoc (L : List EntP) (V : List Value) (h : V.length = L.length) (e : EntP) (v : Value) : flatE (L ++ [e]) (V ++ [v]) = flatE L V ++ entC e v := by
  unfold flatE
  rw [List.zip_append h.symm]
  simp
theorem flatE_at : ∀ (L : List EntP) (V : List Value) (i j : Nat) (e : EntP) (v : Value), L[i]? = some e → V[i]? = some v → j < 5 → (flatE L V)[i * 5 + j]? = (entC e v)[j]?
  | [], _, i, j, e, v, h, _, _ => by simp at h
  | _ :: _, [], i, j, e, v, _, h, _ => by simp at h
  | a :: L, b :: V, 0, j, e, v, h, h', hj => by
    simp at h h'
    subst h
    subst h'
    show (entC a b ++ flatE L V)[0 * 5 + j]? = _
    rw [List.getElem?_append_left (by rw [entC_len]; omega)]
    congr 1
    omega
  | a :: L, b :: V, i + 1, j, e, v, h, h', hj => by
    show (entC a b ++ flatE L V)[(i + 1) * 5 + j]? = _
    rw [List.getElem?_append_right (by rw [entC_len]; omega), entC_len, show (i + 1) * 5 + j - 5 = i * 5 + j by omega]
    exact flatE_at L V i j e v (by simpa using h) (by simpa using h') hj
/-- The blocks of some lists. -/
def blksV (V : List Value) : List Nat := V.flatMap fun u => u.ownBlock.toList
/-- A slice of entries that was made, its bytes too, each list in a block of its own. -/
def EntO (base : Nat) (w : World) (v : Value) (L : List EntP) : Prop :=
  ∃ V : List Value, V.length = L.length ∧ w.ownsRow base 47 5 v L.length (flatE L V) ∧ (∀ (i : Nat) (e : EntP) (vd : Value), L[i]? = some e → V[i]? = some vd → w.ownsRow base 5 1 vd e.data.length (e.data.map byteV)) ∧ (blksV V).Nodup
theorem EntO.nil (base : Nat) (w : World) : EntO base w (.slice none 0 0) [] := ⟨[], rfl, World.ownsRow_nil _ _ _ _, by simp, by simp [blksV]⟩
theorem own_kept {w w' : World} {F : List Nat} {base : Nat} {e : TypeId} {size n : Nat} {v : Value} {xs : List Value} (h : w.ownsRow base e size v n xs) (hm : Mods F w w') (hF : ∀ k ∈ F, ∀ cs fr, w.heap[k]? ≠ some (.cells cs e fr)) : w'.ownsRow base e size v n xs := by
  refine ownsRow_mods h hm fun k hk hkF => ?_
  rcases h.2 with ⟨rfl, _⟩ | ⟨g, cap, cur, rfl, _, hg, _⟩
  · simp [Value.ownBlock] at hk
  · simp only [Value.ownBlock, Option.some.injEq] at hk
    subst hk
    exact hF _ hkF _ _ hg
/-- Blocks of other kinds are written. -/
theorem EntO.mods {base : Nat} {w w' : World} {F : List Nat} {v : Value} {L : List EntP} (h : EntO base w v L) (hm : Mods F w w') (hF : ∀ k ∈ F, ∀ cs fr, w.heap[k]? ≠ some (.cells cs 5 fr)) (hv : ∀ k, v.ownBlock = some k → k ∉ F) : EntO base w' v L := by
  obtain ⟨V, h1, h2, h3, h4⟩ := h
  exact ⟨V, h1, ownsRow_mods h2 hm hv, fun i e vd he hd => own_kept (h3 i e vd he hd) hm hF, h4⟩
/-- The same, the bytes in blocks below a bound. -/
def EntB (base top : Nat) (w : World) (v : Value) (L : List EntP) : Prop :=
  ∃ V : List Value, V.length = L.length ∧ w.ownsRow base 47 5 v L.length (flatE L V) ∧ (∀ (i : Nat) (e : EntP) (vd : Value), L[i]? = some e → V[i]? = some vd → w.ownsRow base 5 1 vd e.data.length (e.data.map byteV)) ∧ (blksV V).Nodup ∧ ∀ k ∈ blksV V, k < top
theorem EntB.mods {base top : Nat} {w w' : World} {F : List Nat} {v : Value} {L : List EntP} (h : EntB base top w v L) (hm : Mods F w w') (hF : ∀ k ∈ F, ∀ cs fr, w.heap[k]? ≠ some (.cells cs 5 fr)) (hv : ∀ k, v.ownBlock = some k → k ∉ F) : EntB base top w' v L := by
  obtain ⟨V, h1, h2, h3, h4⟩ := h
  exact ⟨V, h1, ownsRow_mods h2 hm hv, fun i e vd he hd => own_kept (h3 i e vd he hd) hm hF, h4⟩
theorem EntB.mods0 {base top : Nat} {w w' : World} {v : Value} {L : List EntP} (h : EntB base top w v L) (hm : Mods [] w w') : EntB base top w' v L := h.mods hm (by simp) (by simp)
theorem EntO.toB {base : Nat} {w : World} {v : Value} {L : List EntP} (h : EntO base w v L) : EntB base w.heap.size w v L := by
  obtain ⟨V, h1, h2, h3, h4⟩ := h
  refine ⟨V, h1, h2, h3, h4, fun k hk => ?_⟩
  obtain ⟨u, hu, hk2⟩ := List.mem_flatMap.1 hk
  obtain ⟨i, hi⟩ := List.mem_iff_getElem?.1 hu
  have hl : i < L.length := by have := (List.getElem?_eq_some_iff.1 hi).1; omega
  exact ((h3 i _ u (List.getElem?_eq_getElem hl) hi).lt k (by simpa using hk2)).2
theorem EntO.mods0 {base : Nat} {w w' : World} {v : Value} {L : List EntP} (h : EntO base w v L) (hm : Mods [] w w') : EntO base w' v L := h.mods hm (by simp) (by simp)
theorem EntO.ents {base : Nat} {w : World} {v : Value} {L : List EntP} (h : EntO base w v L) : Ents w v L := by
  obtain ⟨V, h0, h1, h2, -⟩ := h
  rcases ownsRow_form h1 with ⟨rfl, e1, e2⟩ | ⟨g, cap, rfl, e1, e2, _⟩
  · have hl : L = [] := List.eq_nil_of_length_eq_zero e1
    subst hl
    exact ⟨none, 0, rfl, Nat.le_refl _, by unfold maxLen; omega, fun i p hp => by simp at hp⟩
  · refine ⟨_, cap, rfl, e1, e2, fun i p hp => ?_⟩
    have hi : i < L.length := (List.getElem?_eq_some_iff.1 hp).1
    obtain ⟨vd, hvd⟩ : ∃ vd, V[i]? = some vd := ⟨_, List.getElem?_eq_getElem (by omega)⟩
    refine ⟨g, 0, vd, rfl, fun j u hu => ?_, Rd.of_own (h2 i p vd hp hvd)⟩
    have hj : j < 5 := by have := (List.getElem?_eq_some_iff.1 hu).1; rwa [entC_len] at this
    have := h1.cells (g := g) rfl (i * 5 + j) u (by rw [flatE_at L V i j p vd hp hvd hj]; exact hu)
    rw [Addr.add_lit] at this
    simpa [Nat.add_assoc] using this
theorem oneCell_own {w : World} {base : Nat} {e : TypeId} {size n : Nat} {v : Value} {xs : List Value} (h : w.ownsRow base e size v n xs) : v.oneCell' = true := by
  rcases ownsRow_form h with ⟨rfl, _⟩ | ⟨g, cap, rfl, _⟩ <;> rfl
theorem src_ent (w : World) (e : EntP) (vd : Value) (h1 : vd.oneCell' = true) : Src Tryz.prog 5 23 (.slice (some ⟨w.heap.size, 0, none⟩) 1 1) 1 (entC e vd) (w.alloc (.cells (entC e vd).toArray 47)) :=
  Src.ofSlice _ Tryz.underlying23 _ _ _ _ rfl (cells_new w (entC e vd) 47) (by
    intro u hu
    simp only [entC, List.mem_cons, List.not_mem_nil, or_false] at hu
    rcases hu with rfl | rfl | rfl | rfl | rfl
    all_goals first | rfl | exact h1)
theorem info38z : (Tryz.prog.info? 47).map (fun i => (i.zero, i.size, i.bytes)) = some (some (.agg #[.string ⟨#[]⟩, .int .u32 0, .int .u32 0, .string ⟨#[]⟩, .slice none 0 0]), 5, 64) := by kernel_rfl

/-- What read tells: the entries, or that it is broken. -/
def RdPost (w : World) (r : Option (List EntP)) (x : Ending) (w' : World) : Prop :=
  match r with
  | some L => ∃ v, x = .returned v ∧ EntO w.heap.size w' v L ∧ Mods [] w w'
  | none => x = .panicked [{ v := .iface 71 (.agg #[]), recovered := false }] ∧ Mods [] w w'
/-- A reader of one's own, and entries. -/
structure StR (w0 w : World) (a : Nat) (S : RSt) (vb v : Value) (M : List EntP) : Prop where
  r : OwnR 128 w0 w a S vb
  e : EntO w0.heap.size w v M
  d : ∀ k, vb.ownBlock = some k → v.ownBlock ≠ some k
theorem EntO.own {base : Nat} {w : World} {v : Value} {L : List EntP} (h : EntO base w v L) : ∀ k, v.ownBlock = some k → base ≤ k ∧ k < w.heap.size := by
  obtain ⟨V, h1, h2, h3, -⟩ := h
  exact fun k hk => h2.lt k hk
theorem EntO.not {base : Nat} {w : World} {v : Value} {L : List EntP} (h : EntO base w v L) {a : Nat} {cs : Array Value} {t : TypeId} {fr : Nat × Nat} (ha : w.heap[a]? = some (.cells cs t fr)) (ht : t ≠ 47) : v.ownBlock ≠ some a := by
  obtain ⟨V, h1, h2, h3, -⟩ := h
  intro hk
  rcases h2.2 with ⟨rfl, _⟩ | ⟨g, cap, cur, rfl, _, hg, _⟩
  · simp [Value.ownBlock] at hk
  · simp only [Value.ownBlock, Option.some.injEq] at hk
    subst hk
    rw [hg] at ha
    simp only [Option.some.injEq, Obj.cells.injEq] at ha
    exact ht ha.2.1.symm
theorem StR.reader {w0 w w' : World} {a : Nat} {S S' : RSt} {vb v : Value} {M : List EntP} (h : StR w0 w a S vb v M) (hp : RPost 128 w a vb S' w') : StR w0 w' a S' vb v M := by
  have hc := h.r.2.1.cells
  refine ⟨h.r.next hp, h.e.mods hp.2 (fun k hk cs fr hh => ?_) (fun k hk => ?_), h.d⟩
  · simp at hk
    subst hk
    rw [hc] at hh
    simp at hh
  · have := h.e.not hc (by decide)
    intro hm
    simp at hm
    subst hm
    exact this hk
theorem StR.still {w0 w w' : World} {a : Nat} {S : RSt} {vb v : Value} {M : List EntP} (h : StR w0 w a S vb v M) (hm : Mods [] w w') : StR w0 w' a S vb v M :=
  ⟨⟨h.r.1.trans hm (by simp), h.r.2.1.still hm, h.r.2.2.1, fun k hk => Nat.lt_of_lt_of_le (h.r.2.2.2 k hk) hm.size⟩, h.e.mods0 hm, h.d⟩
/-- With a box beside it. -/
structure StB (w0 w : World) (a : Nat) (S : RSt) (vb v : Value) (M : List EntP) (bx : Nat) (cs : Array Value) : Prop where
  s : StR w0 w a S vb v M
  b : w.heap[bx]? = some (.cells cs 47 (0, 0))
  n : w0.heap.size ≤ bx
  n1 : a ≠ bx
  n2 : vb.ownBlock ≠ some bx
  n3 : v.ownBlock ≠ some bx
theorem StR.box {w0 w : World} {a : Nat} {S : RSt} {vb v : Value} {M : List EntP} (h : StR w0 w a S vb v M) (cs : Array Value) : StB w0 (w.alloc (.cells cs 47)) a S vb v M w.heap.size cs := by
  have ha := (Array.getElem?_eq_some_iff.1 h.r.2.1.cells).1
  exact ⟨h.still ((Mods.refl [] w).alloc _), heap_alloc_new w _, h.r.1.size, by omega, fun hk => by have := h.r.2.2.2 _ hk; omega, fun hk => by have := (h.e.own _ hk).2; omega⟩
theorem StB.reader {w0 w w' : World} {a bx : Nat} {S S' : RSt} {vb v : Value} {M : List EntP} {cs : Array Value} (h : StB w0 w a S vb v M bx cs) (hp : RPost 128 w a vb S' w') : StB w0 w' a S' vb v M bx cs :=
  ⟨h.s.reader hp, hp.2.heap h.b (by simpa using h.n1.symm), h.n, h.n1, h.n2, h.n3⟩
theorem StB.still {w0 w w' : World} {a bx : Nat} {S : RSt} {vb v : Value} {M : List EntP} {cs : Array Value} (h : StB w0 w a S vb v M bx cs) (hm : Mods [] w w') : StB w0 w' a S vb v M bx cs :=
  ⟨h.s.still hm, hm.heap h.b (by simp), h.n, h.n1, h.n2, h.n3⟩
theorem StB.set {w0 w : World} {a bx : Nat} {S : RSt} {vb v : Value} {M : List EntP} {cs : Array Value} (h : StB w0 w a S vb v M bx cs) (i : Nat) (u : Value) : StB w0 (w.setCell ⟨bx, i, none⟩ u) a S vb v M bx (cs.setIfInBounds i u) := by
  have hm : Mods [bx] w (w.setCell ⟨bx, i, none⟩ u) := (Mods.refl [bx] w).setCell (Or.inl (by simp)) u
  refine ⟨⟨⟨h.s.r.1.trans hm (fun b hb => Or.inr (by simp at hb; subst hb; exact h.n)), h.s.r.2.1.mods hm (by simpa using h.n1) (fun k hk => by simp; intro e; subst e; exact h.n2 hk), h.s.r.2.2.1, fun k hk => Nat.lt_of_lt_of_le (h.s.r.2.2.2 k hk) hm.size⟩, h.s.e.mods hm (fun k hk cs' fr hh => ?_) (fun k hk => ?_), h.s.d⟩, heap_setCell_same _ _ _ _ _ _ h.b, h.n, h.n1, h.n2, h.n3⟩
  · simp at hk
    subst hk
    rw [h.b] at hh
    simp at hh
  · simp
    intro e
    subst e
    exact h.n3 hk
theorem StB.cell {w0 w : World} {a bx : Nat} {S : RSt} {vb v : Value} {M : List EntP} {cs : Array Value} (h : StB w0 w a S vb v M bx cs) (i : Nat) : w.cell? ⟨bx, i, none⟩ = cs[i]? := cell_of_row _ _ _ _ _ _ h.b
theorem StB.frozen {w0 w : World} {a bx : Nat} {S : RSt} {vb v : Value} {M : List EntP} {cs : Array Value} (h : StB w0 w a S vb v M bx cs) (i : Nat) : w.frozen? ⟨bx, i, none⟩ = false := frozen_of_row _ _ _ _ _ h.b
/-- An entry more. -/
theorem EntO.snoc {base : Nat} {w w' : World} {v v' : Value} {M : List EntP} {e : EntP} {vd : Value} {V : List Value} (hV : V.length = M.length) (hr : w.ownsRow base 47 5 v M.length (flatE M V)) (hd : ∀ (i : Nat) (e : EntP) (vd : Value), M[i]? = some e → V[i]? = some vd → w.ownsRow base 5 1 vd e.data.length (e.data.map byteV))
    (hde : w.ownsRow base 5 1 vd e.data.length (e.data.map byteV)) (hown : w'.ownsRow base 47 5 v' (M.length + 1) (flatE M V ++ entC e vd)) (hm : Mods v.ownBlock.toList w w') (hnd : (blksV V).Nodup) (hne : ∀ k, vd.ownBlock = some k → k ∉ blksV V) : EntO base w' v' (M ++ [e]) := by
  have hF : ∀ k ∈ v.ownBlock.toList, ∀ cs fr, w.heap[k]? ≠ some (.cells cs 5 fr) := by
    intro k hk cs fr hh
    exact ownsRow_not hr hh (by decide) (by simpa using hk)
  refine ⟨V ++ [vd], by simp [hV], by rw [flatE_snoc M V hV, List.length_append]; exact hown, fun i x u hx hu => ?_, ?_⟩
  rotate_left
  · unfold blksV at hnd hne ⊢
    rw [List.flatMap_append, List.nodup_append]
    refine ⟨hnd, ?_, fun x hx y hy e => ?_⟩
    · rw [List.flatMap_cons, List.flatMap_nil, List.append_nil]
      cases vd.ownBlock <;> simp
    · subst e
      exact hne x (by simpa using hy) hx
  rw [List.getElem?_append] at hx hu
  rw [hV] at hu
  by_cases hi : i < M.length
  · rw [if_pos hi] at hx hu
    exact own_kept (hd i x u hx hu) hm hF
  · rw [if_neg hi] at hx hu
    obtain ⟨h0, rfl⟩ : i - M.length = 0 ∧ e = x := by
      cases hz : i - M.length with
      | zero => rw [hz] at hx; exact ⟨rfl, by simpa using hx⟩
      | succ q => rw [hz] at hx; simp at hx
    rw [h0] at hu
    simp at hu
    subst hu
    exact own_kept hde hm hF
theorem get_lt (S : RSt) : (S.get 4).1 < 4294967296 := by
  unfold RSt.get
  split
  · show 0 < _
    omega
  · split
    · show 0 < _
      omega
    · exact val_take_lt _ 4
theorem StR.snoc {w0 w w' : World} {a : Nat} {S : RSt} {vb v v' : Value} {M : List EntP} {e : EntP} (h : StR w0 w a S vb v M) (he : EntO w0.heap.size w' v' (M ++ [e])) (hm : Mods v.ownBlock.toList w w') (hat : v'.ownBlock = v.ownBlock ∨ ∃ k, v'.ownBlock = some k ∧ w.heap.size ≤ k) : StR w0 w' a S vb v' (M ++ [e]) := by
  have hc := h.r.2.1.cells
  refine ⟨⟨h.r.1.trans hm (fun b hb => Or.inr (h.e.own b (by simpa using hb)).1), h.r.2.1.mods hm (fun hh => h.e.not hc (by decide) (by simpa using hh)) (fun k hk hh => h.d k hk (by simpa using hh)), h.r.2.2.1, fun k hk => Nat.lt_of_lt_of_le (h.r.2.2.2 k hk) hm.size⟩, he, fun k hk => ?_⟩
  rcases hat with e | ⟨j, e, hj⟩
  · rw [e]; exact h.d k hk
  · rw [e]
    intro e2
    cases e2
    have := h.r.2.2.2 _ hk
    omega
theorem EntB.reader {w0 w w' : World} {a base top : Nat} {S S' : RSt} {vb v : Value} {M : List EntP} (h : StR w0 w a S vb v M) (hb : EntB base top w v M) (hp : RPost 128 w a vb S' w') : EntB base top w' v M := by
  have hc := h.r.2.1.cells
  refine hb.mods hp.2 (fun k hk cs fr hh => ?_) (fun k hk => ?_)
  · simp at hk
    subst hk
    rw [hc] at hh
    simp at hh
  · have := h.e.not hc (by decide)
    intro hm
    simp at hm
    subst hm
    exact this hk
theorem EntB.box {w0 w : World} {a bx base top : Nat} {S : RSt} {vb v : Value} {M : List EntP} {cs : Array Value} (h : StB w0 w a S vb v M bx cs) (hb : EntB base top w v M) (i : Nat) (u : Value) : EntB base top (w.setCell ⟨bx, i, none⟩ u) v M := by
  refine hb.mods ((Mods.refl [bx] w).setCell (Or.inl (by simp)) u) (fun k hk cs' fr hh => ?_) (fun k hk => ?_)
  · simp at hk
    subst hk
    rw [h.b] at hh
    simp at hh
  · simp
    intro e
    subst e
    exact h.n3 hk
def RelRe (w : World) (b : List UInt8) (a : Nat) (vb : Value) (n : Nat) (v i : Value) (wr : World) : Prop :=
  ∃ (k : Nat) (M : List EntP) (S : RSt), k ≤ n ∧ M.length = k ∧ i = .int .u32 k ∧ readD b = readN (n - k) M S ∧ S.bytes.length = b.length ∧ k * 16 ≤ S.place ∧ StR w wr a S vb v M
set_option maxRecDepth 100000 in
set_option maxHeartbeats 2000000 in
theorem read_any {w : World} (b : List UInt8) {v : Value} (h : Rd w v (b.map byteV)) (hb : b.length ≤ 100000000) (hT : Tabs w) :
    Calls Tryz.prog 32 #[v] w (RdPost w (readD b)) := by
  obtain ⟨i0, hi, hz0, hz1, hz2⟩ := info_parts info38z
  have H1 := Lib.hid (newReader_any b h (by omega))
  obtain ⟨A, c, rfl, -⟩ := h
  rw [List.length_map] at *
  go_enter Tryz.func32, Tryz.ntmps32
  go_wp2_with fail
  refine H1.out.mono ?_
  rintro x w1 ⟨a, vb, rfl, hi, ho, ha, hm⟩
  have HO1 : Hid (OwnR 128 w w1 a (RSt.new b) vb) := Lib.hid ⟨hm, hi, ha, ownsRow_lt ho⟩
  have HR1 := Lib.hid (rraw_any hi 7 (by omega) (by omega))
  clear hi ho ha hm H1
  go_wp2_with fail
  refine HR1.out.mono ?_
  rintro x w2 ⟨v2, rfl, ho, hp⟩
  have hcv := conv_rd (Rd.of_own ho)
  have HS2 : Hid (StR w w2 a ((RSt.new b).raw 7).2 vb (.slice none 0 0) []) := Lib.hid ⟨HO1.out.next hp, EntO.nil _ _, by simp [Value.ownBlock]⟩
  have HRD : Hid (readD b = if ((RSt.new b).raw 7).1 = headD then readN (((RSt.new b).raw 7).2.get 4).1 [] (((RSt.new b).raw 7).2.get 4).2 else none) := Lib.hid rfl
  have HBY : Hid ((((RSt.new b).raw 7).2.get 4).2.bytes.length = b.length) := Lib.hid (by
    unfold RSt.get RSt.raw RSt.wrong RSt.new
    repeat' split
    all_goals rfl)
  have HU := Lib.hid (ru32_any HS2.out.r.2.1)
  obtain ⟨A2, c2, rfl⟩ := own_ctor ho
  have HLT : Hid ((((RSt.new b).raw 7).2.get 4).1 < 4294967296) := Lib.hid (get_lt _)
  clear ho hp HO1 HR1
  generalize ((RSt.new b).raw 7).2 = S1 at *
  generalize ((RSt.new b).raw 7).1 = q at *
  cases hq : q == [118, 100, 117, 109, 112, 49, 10]
  · have hne : q ≠ headD := by
      intro e
      subst e
      simp [headD] at hq
    rw [if_neg hne] at HRD
    go_wp2_with fail
    refine ⟨rfl, ?_⟩
    rw [HRD.out]
    exact ⟨rfl, HS2.out.r.1⟩
  · have heq : q = headD := by
      exact eq_of_beq hq
    rw [if_pos heq] at HRD
    clear heq
    generalize hn : (S1.get 4).1 = n at *
    generalize (S1.get 4).2 = S2 at *
    go_wp2_with fail
    refine HU.out.mono ?_
    rintro x w3 ⟨rfl, hp⟩
    have HS3 := Lib.hid (HS2.out.reader hp)
    clear hp HU HS2
    go_wp2_with fail
    go_loopw [4, 18] (fun v i wr => RelRe w b a vb n v i wr) (fun _ i _ => n - (intOf i).toNat)
    case atStart => exact ⟨0, [], S2, by omega, rfl, rfl, by rw [HRD.out]; rfl, HBY.out, by simp, HS3.out⟩
    case round =>
      obtain ⟨k, M, S, hk, hM, rfl, hrn, hby, hpl, hst⟩ := hrel
      subst hM
      have HST := Lib.hid hst
      have HRN := Lib.hid hrn
      clear hrn hst HS3
      rcases Nat.lt_or_ge M.length n with hlt | hge
      · have HE0 := Lib.hid (rtext_any HST.out.r.2.1 (hT.mods HST.out.r.1).u)
        have HEN : Hid (S.entry = (⟨strOf S.text.1, (S.text.2.get 4).1, ((S.text.2.get 4).2.get 4).1, strOf (((S.text.2.get 4).2.get 4).2.text).1, (((((S.text.2.get 4).2.get 4).2.text).2.get 4).2.raw ((((((S.text.2.get 4).2.get 4).2.text).2.get 4).1 : Nat) : Int)).1⟩, (((((S.text.2.get 4).2.get 4).2.text).2.get 4).2.raw ((((((S.text.2.get 4).2.get 4).2.text).2.get 4).1 : Nat) : Int)).2)) := Lib.hid rfl
        have HEO := Lib.hid (fun h => RSt.entry_of (S := S) h)
        have HL1 := Lib.hid (get_lt (((S.text.2.get 4).2.get 4).2.text).2)
        rw [show S.text.1.toArray = (strOf S.text.1).data from rfl] at HE0
        rw [show (⟨(strOf S.text.1).data⟩ : ByteArray) = strOf S.text.1 from rfl] at HE0
        generalize strOf S.text.1 = p1 at *
        generalize S.text.2 = T1 at *
        have HRS := Lib.hid (fun w' (h : StR w w' a T1 vb u4 M) => ru32_any h.r.2.1)
        generalize (T1.get 4).1 = m1 at *
        generalize (T1.get 4).2 = T2 at *
        have HRS2 := Lib.hid (fun w' (h : StR w w' a T2 vb u4 M) => ru32_any h.r.2.1)
        generalize (T2.get 4).1 = m2 at *
        generalize (T2.get 4).2 = T3 at *
        have HRS3 := Lib.hid (fun w' (h : StR w w' a T3 vb u4 M) => rtext_any h.r.2.1 (hT.mods h.r.1).u)
        rw [show T3.text.1.toArray = (strOf T3.text.1).data from rfl] at HRS3
        rw [show (⟨(strOf T3.text.1).data⟩ : ByteArray) = strOf T3.text.1 from rfl] at HRS3
        generalize strOf T3.text.1 = p2 at *
        generalize T3.text.2 = T4 at *
        have HRS4 := Lib.hid (fun w' (h : StR w w' a T4 vb u4 M) => ru32_any h.r.2.1)
        generalize (T4.get 4).1 = m3 at *
        generalize (T4.get 4).2 = T5 at *
        have hl1 := HL1.out
        have HRS5 := Lib.hid (fun w' (h : StR w w' a T5 vb u4 M) => rraw_any h.r.2.1 (m3 : Int) (by omega) (by omega))
        generalize T5.raw (m3 : Int) = R5 at *
        obtain ⟨dl, T6⟩ := R5
        simp only at HEN
        have HRS6 := Lib.hid (fun w' (h : StR w w' a T6 vb u4 M) => err_any h.r.2.1)
        go_wp2_with fail
        refine HE0.out.mono ?_
        rintro x w4 ⟨rfl, hp⟩
        have HS4 := Lib.hid (HST.out.reader hp)
        clear hp HE0
        go_wp2_with fail
        refine (HRS.out _ HS4.out).mono ?_
        rintro x w5 ⟨rfl, hp⟩
        have HS5 := Lib.hid (HS4.out.reader hp)
        clear hp HS4 HRS
        go_wp2_with fail
        refine (HRS2.out _ HS5.out).mono ?_
        rintro x w6 ⟨rfl, hp⟩
        have HS6 := Lib.hid (HS5.out.reader hp)
        clear hp HS5 HRS2
        have HB6 := Lib.hid (HS6.out.box #[.string p1, .int .u32 (m1 : Int), .int .u32 (m2 : Int), .string ⟨#[]⟩, .slice none 0 0])
        go_wp2_with fail
        generalize w6.alloc (.cells #[.string p1, .int .u32 (m1 : Int), .int .u32 (m2 : Int), .string ⟨#[]⟩, .slice none 0 0] 47) = w7 at *
        generalize w6.heap.size = bx at *
        refine (HRS3.out _ HB6.out.s).mono ?_
        rintro x w8 ⟨rfl, hp⟩
        have HB8 := Lib.hid (HB6.out.reader hp)
        have k3 := HB8.out.frozen 3
        have e3 := HB8.out.cell 3
        have HB9 := Lib.hid (HB8.out.set 3 (.string p2))
        simp only [List.getElem?_toArray, List.getElem?_cons_succ, List.getElem?_cons_zero] at e3
        clear hp HB6 HS6 HRS3
        go_wp2_with fail
        clear e3 k3
        generalize w8.setCell ⟨bx, 3, none⟩ (.string p2) = w9 at *
        refine (HRS4.out _ HB9.out.s).mono ?_
        rintro x w10 ⟨rfl, hp⟩
        have HB10 := Lib.hid (HB9.out.reader hp)
        clear hp HB8 HB9 HRS4
        go_wp2_with fail
        refine (HRS5.out _ HB10.out.s).mono ?_
        rintro x w11 ⟨vd, rfl, hod, hp⟩
        simp only at hod hp
        have HB11 := Lib.hid (HB10.out.reader hp)
        have HEB11 := Lib.hid (EntB.reader HB10.out.s HB10.out.s.e.toB hp)
        obtain ⟨Ad, cd, rfl⟩ := own_ctor hod
        have HVD := Lib.hid (fun k hk => (hod.lt k hk).1)
        have HD11 := Lib.hid (ownsRow_base hod (B := w.heap.size) HB10.out.s.r.1.size)
        have k4 := HB11.out.frozen 4
        have e4 := HB11.out.cell 4
        have HB12 := Lib.hid (HB11.out.set 4 (.slice Ad dl.length cd))
        have HEB12 := Lib.hid (EntB.box HB11.out HEB11.out 4 (.slice Ad dl.length cd))
        have HD12 := Lib.hid (ownsRow_set HD11.out (fun hk => ownsRow_not HD11.out HB11.out.b (by decide) hk) (.slice Ad dl.length cd) (a := ⟨bx, 4, none⟩))
        simp only [List.setIfInBounds_toArray, List.set_cons_succ, List.set_cons_zero, List.getElem?_toArray, List.getElem?_cons_succ, List.getElem?_cons_zero] at e4 HB12
        clear hp HB10 HB11 HRS5 hod HD11
        go_wp2_with fail
        clear e4 k4
        generalize w11.setCell ⟨bx, 4, none⟩ (.slice Ad dl.length cd) = w12 at *
        refine (HRS6.out _ HB12.out.s).mono ?_
        rintro x w13 ⟨rfl, q13, rfl⟩
        have HB13 := Lib.hid (HB12.out.still ((Mods.refl [] w12).drewN q13))
        have HEB13 := Lib.hid (HEB12.out.mods0 ((Mods.refl [] w12).drewN q13))
        have HD13 := Lib.hid (ownsRow_mods (F := []) HD12.out ((Mods.refl [] w12).drewN q13) (by simp))
        generalize w12.drewN q13 = w13 at *
        clear HB12 HD12 HRS6 HEB12 HEB11
        have hst : n - M.length = (n - (M.length + 1)) + 1 := by omega
        by_cases her : T6.err = 0
        · have hne : (T6.err != 0) = false := by simp [her]
          obtain ⟨mm, g1, g2, g3, g4, g5, g6, g7, g8⟩ := HEO.out (by rw [HEN.out]; exact her)
          rw [HEN.out] at g2
          simp only at g2
          have HG : Hid (T6.bytes.length = b.length ∧ (M.length + 1) * 16 ≤ T6.place) := Lib.hid (by rw [g2]; refine ⟨hby, ?_⟩; show _ ≤ S.place + mm; omega)
          have HNN : Hid (readD b = readN (n - (M.length + 1)) (M ++ [⟨p1, m1, m2, p2, dl⟩]) T6) := Lib.hid (by
            rw [HRN.out, hst]
            conv => lhs; unfold readN
            rw [HEN.out, if_neg (by simpa using her)])
          have hkm : M.length ≤ 100000000 := by omega
          obtain ⟨V, hV, hrow, hdat, hnd, htop⟩ := HEB13.out
          have HND := Lib.hid hnd
          have HNE := Lib.hid (fun k hk (hk2 : k ∈ blksV V) => (absurd (htop k hk2) (Nat.not_lt.2 (HVD.out k hk)) : False))
          obtain ⟨Au, cu, rfl⟩ := own_ctor hrow
          have HROW := Lib.hid hrow
          have HDAT := Lib.hid hdat
          have hhs := HB13.out.s.r.1.size
          clear hrow hdat hnd htop HEB13 HVD g1 g2 g3 g4 g5 g6 g7 g8 HEO HEN HRN
          go_wp2_with (first
            | (refine wpList_load_row rfl 47 _ rfl bx rfl 47 #[.string p1, .int .u32 (m1 : Int), .int .u32 (m2 : Int), .string p2, .slice Ad dl.length cd] (0, 0) _ HB13.out.b Tryz.underlying47 rfl info38 ?_)
            | (at_builtin; go_must (refine wpList_app _ rfl _ _ 23 23 rfl w.heap.size 47 i0 (.agg #[.string ⟨#[]⟩, .int .u32 0, .int .u32 0, .string ⟨#[]⟩, .slice none 0 0]) 5 64 Tryz.underlying23 hi hz0 hz1 hz2 rfl _ _ _ rfl (HROW.out.alloc _) _ 1 (entC ⟨p1, m1, m2, p2, dl⟩ (.slice Ad dl.length cd)) rfl ?c1 ?c2 ?c3 ?c4 ?_)))
          case c1 => exact src_ent w13 ⟨p1, m1, m2, p2, dl⟩ (.slice Ad dl.length cd) rfl
          case c2 => unfold maxLen; omega
          case c3 => omega
          case c4 => simp; omega
          intro v' w14 hown hgrow hat
          have hm : Mods (Value.slice Au M.length cu).ownBlock.toList w13 w14 := ((Mods.refl _ w13).alloc _).grown hgrow (fun x hx => Or.inl (by rw [hx]; simp))
          have hEE := EntO.snoc (e := ⟨p1, m1, m2, p2, dl⟩) hV HROW.out HDAT.out HD13.out hown hm HND.out HNE.out
          have HS := Lib.hid (HB13.out.s.snoc hEE hm (hat.imp id (fun e => ⟨_, e, by simp⟩)))
          obtain ⟨A9, c9, rfl⟩ := own_ctor hown
          have hk32 := HLT.out
          clear hown hgrow hat hm hEE
          go_wp2_with fail
          exact ⟨⟨M.length + 1, M ++ [⟨p1, m1, m2, p2, dl⟩], T6, by omega, by simp, rfl, HNN.out, HG.out.1, HG.out.2, HS.out⟩, by simp only [intOf]; omega⟩
        · have hne : (T6.err != 0) = true := bne_iff_ne.2 her
          have HNN : Hid (readD b = none) := Lib.hid (by
            rw [HRN.out, hst]
            unfold readN
            rw [HEN.out, if_pos her])
          go_wp2_with fail
          refine ⟨rfl, ?_⟩
          rw [HNN.out]
          exact ⟨rfl, HB13.out.s.r.1⟩
      · have hkn : M.length = n := by omega
        subst hkn
        have HNN : Hid (readD b = some M) := Lib.hid (by rw [HRN.out, Nat.sub_self]; rfl)
        have HEE := Lib.hid HST.out.e
        have HMM := Lib.hid HST.out.r.1
        obtain ⟨V, hV, hrow, hdat, -⟩ := HST.out.e
        obtain ⟨Au, cu, rfl⟩ := own_ctor hrow
        clear hrow hdat
        go_wp2_with fail
        go_ret
        rw [HNN.out]
        exact ⟨_, rfl, HEE.out, HMM.out⟩
end Go.Proofs.YtmcekhgmmocajaaGreatDoor
