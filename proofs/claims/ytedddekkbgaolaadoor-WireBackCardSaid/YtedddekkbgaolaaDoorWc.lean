/- WireBack: what stands in memory while a step is written: the row of steps, that of places, the step's box, the writer. -/
import Derived.Test.YtedddekkbgaolaaDoorAg
import Derived.Test.YtedddekkbgaolaaDoorWo
namespace Go.Proofs.YtedddekkbgaolaaDoor
open Go.RowKit Me

theorem info48b : (Tryd.prog.info? 48).map (fun i => (i.zero, i.size, i.bytes)) = some (some (.agg #[.int .i64 0, .int .i64 0, .int .u64 0, .int .i64 0, .slice none 0 0, .string ⟨#[]⟩]), 6, 72) := by kernel_rfl
def rowB (lv pv : Value) : List Nat := lv.ownBlock.toList ++ pv.ownBlock.toList
/-- What stands when steps have been written: the row of steps, that of places, how many bytes. -/
def StB (w : World) (a c : Nat) (lv pv n : Value) (wr : World) : Prop :=
  ∃ (M : List (OpP × Value)) (S : WSt), n = .int .i64 (S.bytes.length : Int) ∧ M.length + S.opens.length ≤ c ∧ (∀ p ∈ M, OpIn w p) ∧ Wrote (M.map Prod.fst) S ∧ Mods [] w wr ∧
    wr.ownsRow w.heap.size 48 6 lv M.length (opsC M) ∧ wr.ownsRow w.heap.size 3 1 pv S.opens.length (S.opens.map intV) ∧ WOff 122 w.heap.size wr a S (rowB lv pv)
def RelB (w : World) (a n : Nat) (lv pv nv i : Value) (wr : World) : Prop := ∃ k : Nat, k ≤ n ∧ i = .int .i64 k ∧ StB w a (2 * k) lv pv nv wr
theorem stB_still {w wr w2 : World} {a c : Nat} {lv pv n : Value} (h : StB w a c lv pv n wr) (hm : Mods [] wr w2) : StB w a c lv pv n w2 := by
  obtain ⟨M, S, h1, h2, h3, h4, h5, h6, h7, h8⟩ := h
  exact ⟨M, S, h1, h2, h3, h4, h5.trans hm (by simp), ownsRow_mods h6 hm (by simp), ownsRow_mods h7 hm (by simp), h8.still hm⟩
theorem stB_more {w wr : World} {a c c' : Nat} {lv pv n : Value} (h : StB w a c lv pv n wr) (hc : c ≤ c') : StB w a c' lv pv n wr := by
  obtain ⟨M, S, h1, h2, h3⟩ := h
  exact ⟨M, S, h1, by omega, h3⟩
theorem OpP.size_le {o : OpP} (h : o.Fits) : o.size ≤ 140737488355330 := by
  have h1 := h.b
  have h2 := lettersL_length o.s.data.toList
  unfold OpP.size OpP.lets
  repeat' split
  all_goals omega
theorem op_cells {w : World} {g p : Nat} {o : OpP} {vb : Value} (h : w.rangeAt g p (opC o vb)) : w.cell? ⟨g, p, none⟩ = some (.int .i64 o.who) ∧ w.cell? ⟨g, p + 1, none⟩ = some (.int .i64 o.kind) ∧ w.cell? ⟨g, p + 2, none⟩ = some (.int .u64 (o.n : Int)) ∧
    w.cell? ⟨g, p + 3, none⟩ = some (.int .i64 o.k) ∧ w.cell? ⟨g, p + 4, none⟩ = some vb ∧ w.cell? ⟨g, p + 5, none⟩ = some (.string o.s) :=
  ⟨h 0 _ rfl, h 1 _ rfl, h 2 _ rfl, h 3 _ rfl, h 4 _ rfl, h 5 _ rfl⟩
theorem box_cells {w : World} {B : Nat} {o : OpP} {vb : Value} (h : w.heap[B]? = some (.cells (opC o vb).toArray 48 (0, 0))) : w.cell? ⟨B, 0, none⟩ = some (.int .i64 o.who) ∧ w.cell? ⟨B, 1, none⟩ = some (.int .i64 o.kind) ∧ w.cell? ⟨B, 2, none⟩ = some (.int .u64 (o.n : Int)) ∧
    w.cell? ⟨B, 3, none⟩ = some (.int .i64 o.k) ∧ w.cell? ⟨B, 4, none⟩ = some vb ∧ w.cell? ⟨B, 5, none⟩ = some (.string o.s) := by
  refine ⟨?_, ?_, ?_, ?_, ?_, ?_⟩ <;> (rw [cell_of_row _ _ _ _ _ _ h]; rfl)
theorem Ops.take {w : World} {A : Option Addr} {n c : Nat} {L : List (OpP × Value)} (h : Ops w (.slice A n c) L) (k : Nat) (hk : k ≤ L.length) : Ops w (.slice A k c) (L.take k) := by
  obtain ⟨A', c', e, h1, h2, h3⟩ := h
  injection e with e0 e1 e2
  subst e0
  subst e2
  refine ⟨A, c, by rw [List.length_take, Nat.min_eq_left hk], by rw [List.length_take]; omega, h2, fun i p hp => ?_⟩
  rw [List.getElem?_take] at hp
  split at hp
  · exact h3 i p hp
  · cases hp
theorem src_op (w : World) (o : OpP) (vb : Value) (h1 : vb.oneCell' = true) : Src Tryd.prog 6 30 (.slice (some ⟨w.heap.size, 0, none⟩) 1 1) 1 (opC o vb) (w.alloc (.cells (opC o vb).toArray 48)) :=
  Src.ofSlice _ Tryd.underlying30 _ _ _ _ rfl (cells_new w (opC o vb) 48) (by
    intro u hu
    simp only [opC, List.mem_cons, List.not_mem_nil, or_false] at hu
    rcases hu with rfl | rfl | rfl | rfl | rfl | rfl
    all_goals first | rfl | exact h1)

def lenOf : Value → Nat
  | .slice _ n _ => n
  | _ => 0
def Cur (wc : World) (a : Nat) (lv pv : Value) (B : Nat) (o : OpP) (vb : Value) (M : List (OpP × Value)) (P : List Nat) (S : WSt) (w : World) : Prop :=
  Mods [] wc w ∧ w.ownsRow wc.heap.size 48 6 lv M.length (opsC M) ∧ w.ownsRow wc.heap.size 3 1 pv P.length (P.map intV) ∧ w.heap[B]? = some (.cells (opC o vb).toArray 48 (0, 0)) ∧ WOff 122 wc.heap.size w a S (B :: rowB lv pv)
section
variable {wc w w' : World} {a B : Nat} {lv pv vb : Value} {o : OpP} {M : List (OpP × Value)} {P : List Nat} {S S' : WSt}
theorem rowB_lt {e e' : TypeId} {s s' n n' : Nat} {xs xs' : List Value} {b b' : Nat} (h1 : w.ownsRow b e s lv n xs) (h2 : w.ownsRow b' e' s' pv n' xs') : ∀ k ∈ rowB lv pv, k < w.heap.size := by
  intro k hk
  simp only [rowB, List.mem_append, Option.mem_toList] at hk
  rcases hk with hk | hk
  · exact ownsRow_lt h1 k hk
  · exact ownsRow_lt h2 k hk
theorem Cur.start (h1 : Mods [] wc w) (h2 : w.ownsRow wc.heap.size 48 6 lv M.length (opsC M)) (h3 : w.ownsRow wc.heap.size 3 1 pv P.length (P.map intV)) (h4 : WOff 122 wc.heap.size w a S (rowB lv pv)) (o : OpP) (vb : Value) :
    Cur wc a lv pv w.heap.size o vb M P S (w.alloc (.cells (opC o vb).toArray 48)) := by
  refine ⟨h1.alloc _, h2.alloc _, h3.alloc _, heap_alloc_new w _, h4.beside ((Mods.refl [] w).alloc _) (by simp) fun k hk => ?_⟩
  rcases List.mem_cons.1 hk with rfl | hk
  · exact ⟨by simp, Or.inr (Nat.le_refl _)⟩
  · exact ⟨by have := rowB_lt h2 h3 k hk; simp; omega, Or.inl hk⟩
theorem Cur.still (h : Cur wc a lv pv B o vb M P S w) (hm : Mods [] w w') : Cur wc a lv pv B o vb M P S w' := by
  obtain ⟨h1, h2, h3, h4, h5⟩ := h
  exact ⟨h1.trans hm (by simp), ownsRow_mods h2 hm (by simp), ownsRow_mods h3 hm (by simp), hm.heap h4 (by simp), h5.still hm⟩
theorem Cur.call {f : FuncId} {args : Array Value} {x : Value} (h : Cur wc a lv pv B o vb M P S w) (hc : ∀ vb vo, IsW 122 w a S vb vo → Calls Tryd.prog f args w fun e w' => e = .returned x ∧ WPost 122 w a vb vo S' w') :
    Calls Tryd.prog f args w fun e w' => e = .returned x ∧ Cur wc a lv pv B o vb M P S' w' := by
  obtain ⟨h1, h2, h3, h4, h5⟩ := h
  refine (h5.call h1.size hc).mono fun e w' hh => ⟨hh.1, hh.2.2.mods h1, hh.2.2.row h2 (fun k hk => ?_), hh.2.2.row h3 (fun k hk => ?_), hh.2.2.heap h4 (by simp), hh.2.1⟩
  · simp [rowB, hk]
  · simp [rowB, hk]
theorem Cur.isW (h : Cur wc a lv pv B o vb M P S w) : ∃ vb vo, IsW 122 w a S vb vo := by
  obtain ⟨_, _, _, _, vb, vo, h, _⟩ := h
  exact ⟨vb, vo, h⟩
theorem Cur.places {w2 : World} {pv2 : Value} {p : Nat} {o1 : Obj} {news : List Value} (h : Cur wc a lv pv B o vb M P S w) (hown : w2.ownsRow wc.heap.size 3 1 pv2 (P.length + 1) (P.map intV ++ news)) (hn : news = [intV p]) (hg : (w.alloc o1).grownBy w2 pv.ownBlock)
    (hat : pv2.ownBlock = pv.ownBlock ∨ pv2.ownBlock = some (w.heap.size + 1)) : Cur wc a lv pv2 B o vb M (P ++ [p]) S w2 := by
  obtain ⟨h1, h2, h3, h4, h5⟩ := h
  have hm : Mods pv.ownBlock.toList w w2 := ((Mods.refl _ _).alloc _).grown hg (fun b hb => Or.inl (by rw [hb]; simp))
  have hBl : B < w.heap.size := (Array.getElem?_eq_some_iff.1 h4).1
  subst hn
  refine ⟨h1.trans hm (fun b hb => Or.inr (h3.lt b (by simpa using hb)).1), ownsRow_mods h2 hm (fun k hk hf => ownsRow_kind h2 h3 (by decide) k hk (by simpa using hf)), by simpa using hown, hm.heap h4 (fun hf => ownsRow_not h3 h4 (by decide) (by simpa using hf)), h5.beside hm (fun k hk => by simp [rowB] at hk ⊢; exact Or.inr (Or.inr hk)) fun k hk => ?_⟩
  rcases List.mem_cons.1 hk with rfl | hk
  · exact ⟨Nat.lt_of_lt_of_le hBl hm.size, Or.inl (by simp)⟩
  · simp only [rowB, List.mem_append, Option.mem_toList] at hk
    rcases hk with hk | hk
    · exact ⟨Nat.lt_of_lt_of_le (ownsRow_lt h2 k hk) hm.size, Or.inl (by simp [rowB, hk])⟩
    · refine ⟨ownsRow_lt hown k hk, ?_⟩
      rcases hat with e | e
      · rw [e] at hk
        exact Or.inl (by simp [rowB, hk])
      · rw [e] at hk
        simp at hk
        omega
theorem Cur.pop {g n c p : Nat} (h : Cur wc a lv (.slice (some ⟨g, 0, none⟩) n c) B o vb M (P ++ [p]) S w) : Cur wc a lv (.slice (some ⟨g, 0, none⟩) P.length c) B o vb M P S w := by
  obtain ⟨h1, h2, h3, h4, h5⟩ := h
  have hn : n = P.length + 1 := by
    rcases ownsRow_form h3 with ⟨e, _⟩ | ⟨g', c', e, _⟩
    · injection e with e _ _
      cases e
    · injection e with _ e _
      simpa using e
  rw [show (P ++ [p]).length = n by simp [hn]] at h3
  have := ownsRow_cut h3 P.length (by omega)
  rw [show ((P ++ [p]).map intV).take P.length = P.map intV by simp] at this
  exact ⟨h1, h2, this, h4, h5⟩
def Cu0 (wc : World) (a : Nat) (lv pv : Value) (M : List (OpP × Value)) (P : List Nat) (S : WSt) (w : World) : Prop :=
  Mods [] wc w ∧ w.ownsRow wc.heap.size 48 6 lv M.length (opsC M) ∧ w.ownsRow wc.heap.size 3 1 pv P.length (P.map intV) ∧ WOff 122 wc.heap.size w a S (rowB lv pv)
theorem Cu0.call {f : FuncId} {args : Array Value} {x : Value} (h : Cu0 wc a lv pv M P S w) (hc : ∀ vb vo, IsW 122 w a S vb vo → Calls Tryd.prog f args w fun e w' => e = .returned x ∧ WPost 122 w a vb vo S' w') :
    Calls Tryd.prog f args w fun e w' => e = .returned x ∧ Cu0 wc a lv pv M P S' w' := by
  obtain ⟨h1, h2, h3, h5⟩ := h
  refine (h5.call h1.size hc).mono fun e w' hh => ⟨hh.1, hh.2.2.mods h1, hh.2.2.row h2 (fun k hk => ?_), hh.2.2.row h3 (fun k hk => ?_), hh.2.1⟩
  · simp [rowB, hk]
  · simp [rowB, hk]
theorem Cu0.pop {g n c p : Nat} (h : Cu0 wc a lv (.slice (some ⟨g, 0, none⟩) n c) M (P ++ [p]) S w) : Cu0 wc a lv (.slice (some ⟨g, 0, none⟩) P.length c) M P S w := by
  obtain ⟨h1, h2, h3, h5⟩ := h
  have hn : n = P.length + 1 := by
    rcases ownsRow_form h3 with ⟨e, _⟩ | ⟨g', c', e, _⟩
    · injection e with e _ _
      cases e
    · injection e with _ e _
      simpa using e
  rw [show (P ++ [p]).length = n by simp [hn]] at h3
  have := ownsRow_cut h3 P.length (by omega)
  rw [show ((P ++ [p]).map intV).take P.length = P.map intV by simp] at this
  exact ⟨h1, h2, this, h5⟩
theorem Cu0.next {w2 : World} {lv2 : Value} {c : Nat} (h : Cu0 wc a lv pv M P S w) (hP : S.opens = P) (hown : w2.ownsRow wc.heap.size 48 6 lv2 (M.length + 1) (opsC M ++ opC o vb)) (hg : (w.alloc (.cells (opC o vb).toArray 48)).grownBy w2 lv.ownBlock)
    (hat : lv2.ownBlock = lv.ownBlock ∨ lv2.ownBlock = some (w.heap.size + 1)) (hI : ∀ p ∈ M, OpIn wc p) (hio : OpIn wc (o, vb)) (hW : Wrote (M.map Prod.fst ++ [o]) S) (hc : M.length + 1 + P.length ≤ c) :
    StB wc a c lv2 pv (.int .i64 (S.bytes.length : Int)) w2 := by
  obtain ⟨h1, h2, h3, h5⟩ := h
  have hm : Mods lv.ownBlock.toList w w2 := ((Mods.refl _ _).alloc _).grown hg (fun b hb => Or.inl (by rw [hb]; simp))
  subst hP
  refine ⟨M ++ [(o, vb)], S, rfl, by simp; omega, fun p hp => ?_, by simpa using hW, h1.trans hm (fun b hb => Or.inr (h2.lt b (by simpa using hb)).1), by rw [opsC_snoc]; simpa using hown,
    ownsRow_mods h3 hm (fun k hk hf => ownsRow_kind h2 h3 (by decide) k (by simpa using hf) hk), h5.beside hm (fun k hk => by simp [rowB] at hk ⊢; exact Or.inl hk) fun k hk => ?_⟩
  · rcases List.mem_append.1 hp with hp | hp
    · exact hI p hp
    · simp at hp
      subst hp
      exact hio
  · simp only [rowB, List.mem_append, Option.mem_toList] at hk
    rcases hk with hk | hk
    · refine ⟨ownsRow_lt hown k hk, ?_⟩
      rcases hat with e | e
      · rw [e] at hk
        exact Or.inl (by simp [rowB, hk])
      · rw [e] at hk
        simp at hk
        omega
    · exact ⟨Nat.lt_of_lt_of_le (ownsRow_lt h3 k hk) hm.size, Or.inl (by simp [rowB, hk])⟩
theorem shut_in : OpIn wc (⟨0, 8, 0, 0, [], ⟨#[]⟩⟩, .slice none 0 0) :=
  ⟨⟨by simp, by simp, by simp, by simp, by simp, by show (0 : Nat) ≤ _; omega⟩, none, 0, rfl, by simp, by unfold maxLen; omega, fun j u hu => by simp at hu⟩
/-- The step has been laid behind the others. -/
theorem Cur.next {w2 : World} {lv2 : Value} {c : Nat} (h : Cur wc a lv pv B o vb M P S w) (hP : S.opens = P) (hown : w2.ownsRow wc.heap.size 48 6 lv2 (M.length + 1) (opsC M ++ opC o vb)) (hg : (w.alloc (.cells (opC o vb).toArray 48)).grownBy w2 lv.ownBlock)
    (hat : lv2.ownBlock = lv.ownBlock ∨ lv2.ownBlock = some (w.heap.size + 1)) (hI : ∀ p ∈ M, OpIn wc p) (hio : OpIn wc (o, vb)) (hW : Wrote (M.map Prod.fst ++ [o]) S) (hc : M.length + 1 + P.length ≤ c) :
    StB wc a c lv2 pv (.int .i64 (S.bytes.length : Int)) w2 := by
  obtain ⟨h1, h2, h3, h4, h5⟩ := h
  have hm : Mods lv.ownBlock.toList w w2 := ((Mods.refl _ _).alloc _).grown hg (fun b hb => Or.inl (by rw [hb]; simp))
  subst hP
  refine ⟨M ++ [(o, vb)], S, rfl, by simp; omega, fun p hp => ?_, by simpa using hW, h1.trans hm (fun b hb => Or.inr (h2.lt b (by simpa using hb)).1), by rw [opsC_snoc]; simpa using hown,
    ownsRow_mods h3 hm (fun k hk hf => ownsRow_kind h2 h3 (by decide) k (by simpa using hf) hk), h5.beside hm (fun k hk => by simp [rowB] at hk ⊢; exact Or.inr (Or.inl hk)) fun k hk => ?_⟩
  · rcases List.mem_append.1 hp with hp | hp
    · exact hI p hp
    · simp at hp
      subst hp
      exact hio
  · simp only [rowB, List.mem_append, Option.mem_toList] at hk
    rcases hk with hk | hk
    · refine ⟨ownsRow_lt hown k hk, ?_⟩
      rcases hat with e | e
      · rw [e] at hk
        exact Or.inl (by simp [rowB, hk])
      · rw [e] at hk
        simp at hk
        omega
    · exact ⟨Nat.lt_of_lt_of_le (ownsRow_lt h3 k hk) hm.size, Or.inl (by simp [rowB, hk])⟩
end
end Go.Proofs.YtedddekkbgaolaaDoor
