/- Pieces of memory: more laws (rows turned, pieces in any order, records stored in place). | The law's Book in pieces of memory; still, keeps. | The law's lent, left: bytes in memory of their own, with marks behind them. | The Book's entries. | The law's lentEntries, wholeEntries. | The law's step encode. -/
import Derived.Test.YtmcekhgmmocajaaGreatDoorPc
import Derived.Test.YtmcekhgmmocajaaGreatDoorRc
import Derived.Test.YtmcekhgmmocajaaGreatDoorOd
import Derived.Test.YtmcekhgmmocajaaGreatDoorWh
import Derived.Laws.Tables
import Derived.Laws.CopyOwn
import Derived.Laws.MakeOwn
import Derived.Test.YtmcekhgmmocajaaGreatDoorSb
import Derived.StillTailTactics
import Derived.Test.YtmcekhgmmocajaaGreatDoorOf3
namespace Go.Proofs.YtmcekhgmmocajaaGreatDoor
open Go Go.RowKit Me

namespace Me
theorem row_turn {e : TypeId} {size : Nat} {v v' : Value} {n n' : Nat} {xs xs' : List Value} {w w' : World} {o : Obj} (hown : w'.ownsRow 0 e size v' n' xs') (hg : (w.alloc o).grownBy w' v.ownBlock) (hat : v'.ownBlock = v.ownBlock ∨ v'.ownBlock = some (w.heap.size + 1)) :
    ∀ F1, (Pc.row e size v n xs).A w F1 → Post (Pc.row e size v' n' xs') w F1 w' := by
  rintro F1 ⟨_, rfl⟩
  refine ⟨_, ⟨hown, rfl⟩, ((Mods.refl _ _).alloc _).grown hg (fun b hb => Or.inl (by rw [hb]; simp)), fun k hk => ?_⟩
  rcases hat with h | h
  · rw [h] at hk
    exact Or.inl hk
  · rw [h] at hk
    simp at hk
    omega
theorem blk_turn {b i : Nat} {cs : Array Value} {t : TypeId} {w : World} (u : Value) : ∀ F1, (Pc.blk b (.cells cs t)).A w F1 → Post (Pc.blk b (.cells (cs.setIfInBounds i u) t)) w F1 (w.setCell ⟨b, i, none⟩ u) := by
  rintro F1 ⟨h, rfl⟩
  exact ⟨[b], ⟨by rw [heap_setCell_same _ _ _ _ _ _ h], rfl⟩, (Mods.refl _ _).setCell (p := ⟨b, i, none⟩) (Or.inl (by simp)) u, fun _ hk => Or.inl hk⟩
/-- The third to the front. -/
theorem Pc.Ent.at3 (p q r s : Pc) : Pc.Ent (p.star (q.star (r.star s))) (r.star (p.star (q.star s))) := ((Pc.Ent.refl p).mono (Pc.Ent.swap q r s)).trans (Pc.Ent.swap p r _)
theorem Post.rowAt {p : Pc} {w0 w : World} {F : List Nat} {e : TypeId} {size : Nat} {v : Value} {n : Nat} {xs : List Value} (h : Post p w0 F w) (hp : Pc.Ent p (Pc.row e size v n xs)) : w.ownsRow 0 e size v n xs := by
  obtain ⟨F1, h1, _⟩ := h.ent hp
  exact h1.1
theorem Post.blkOf {p : Pc} {w0 w : World} {F : List Nat} {b : Nat} {o : Obj} (h : Post p w0 F w) (e : Pc.Ent p (Pc.blk b o)) : w.heap[b]? = some o := by
  obtain ⟨F1, h1, _⟩ := h.ent e
  exact h1.1
theorem Post.ex1 {α : Type} {q : α → Pc} {w0 w : World} {F : List Nat} (h : Post (Pc.ex q) w0 F w) : ∃ x, Post (q x) w0 F w := by
  obtain ⟨F1, ⟨x, h1⟩, h2, h3⟩ := h
  exact ⟨x, F1, h1, h2, h3⟩
theorem Pc.Ent.at4 (p q r s t : Pc) : Pc.Ent (p.star (q.star (r.star (s.star t)))) (s.star (p.star (q.star (r.star t)))) := ((Pc.Ent.refl p).mono (Pc.Ent.at3 q r s t)).trans (Pc.Ent.swap p s _)
theorem Pc.Ent.at5 (p q r s t u : Pc) : Pc.Ent (p.star (q.star (r.star (s.star (t.star u))))) (t.star (p.star (q.star (r.star (s.star u))))) := ((Pc.Ent.refl p).mono (Pc.Ent.at4 q r s t u)).trans (Pc.Ent.swap p t _)
namespace Pc
def all : List Pc → Pc
  | [] => emp
  | [p] => p
  | p :: q :: L => p.star (all (q :: L))
theorem all_cons {p : Pc} {l : List Pc} (h : l ≠ []) : all (p :: l) = p.star (all l) := by
  cases l with
  | nil => exact absurd rfl h
  | cons q l => rfl
theorem all_perm {l m : List Pc} (h : l.Perm m) : Ent (all l) (all m) := by
  induction h with
  | nil => exact Ent.refl _
  | cons x h ih =>
    rename_i l1 l2
    by_cases h1 : l1 = []
    · subst h1
      rw [h.nil_eq]
      exact Ent.refl _
    · rw [all_cons h1, all_cons (fun h2 => h1 (by subst h2; exact h.eq_nil))]
      exact (Ent.refl x).mono ih
  | swap x y l =>
    cases l with
    | nil => exact Ent.comm _ _
    | cons z l => exact Ent.swap _ _ _
  | trans _ _ h1 h2 => exact h1.trans h2
/-- The pieces in the order of the indices idx. -/
theorem perm (l : List Pc) (idx : List Nat) {n : Nat} (h : idx.Perm (List.range n)) (hn : l.length = n := by rfl) : Ent (all l) (all (idx.map fun i => l.getD i emp)) := by
  subst hn
  refine all_perm ?_
  have e : l = (List.range l.length).map fun i => l.getD i emp := by
    refine List.ext_getElem (by simp) fun i h1 h2 => ?_
    simp [List.getD, h1]
  conv => lhs; rw [e]
  exact (h.map _).symm
end Pc
theorem Pc.Ent.when {φ ψ : Prop} {p q : Pc} (h : φ → ψ) (k : φ → Pc.Ent p q) : Pc.Ent (Pc.when φ p) (Pc.when ψ q) := fun w F ⟨h1, h2⟩ => by
  obtain ⟨F', h3, h4⟩ := k h1 w F h2
  exact ⟨F', ⟨h h1, h3⟩, h4⟩
theorem Post.addRow {p : Pc} {w0 w w' : World} {F : List Nat} {e : TypeId} {size : Nat} {v : Value} {n : Nat} {xs : List Value} (h : Post p w0 F w) (hm : Mods [] w w') (ho : w'.ownsRow w.heap.size e size v n xs) : Post ((Pc.row e size v n xs).star p) w0 F w' :=
  h.add hm ⟨ownsRow_base ho (Nat.zero_le _), rfl⟩ (fun k hk => (ho.lt k (by simpa using hk)).1)
theorem Post.addP {p q : Pc} {w0 w w' : World} {F : List Nat} (h : Post p w0 F w) (k : Post q w [] w') : Post (q.star p) w0 F w' := by
  obtain ⟨G, g1, g2, g3⟩ := k
  exact h.add g2 g1 (fun k hk => (g3 k hk).elim (fun h => by cases h) id)
theorem Pc.Ent.whenI {φ : Prop} {p : Pc} (h : φ) : Pc.Ent p (Pc.when φ p) := fun _ F hp => ⟨F, ⟨h, hp⟩, fun _ hk => hk⟩
theorem Post.whenE {φ : Prop} {p r : Pc} {w0 w : World} {F : List Nat} (h : Post ((Pc.when φ p).star r) w0 F w) : φ ∧ Post (p.star r) w0 F w := by
  obtain ⟨F12, ⟨F1, F2, ⟨h1, h2⟩, h3, h4, rfl⟩, h5, h6⟩ := h
  exact ⟨h1, _, ⟨F1, F2, h2, h3, h4, rfl⟩, h5, h6⟩
theorem Post.whenE' {φ : Prop} {p : Pc} {w0 w : World} {F : List Nat} (h : Post (Pc.when φ p) w0 F w) : φ ∧ Post p w0 F w := by
  obtain ⟨F1, ⟨h1, h2⟩, h5, h6⟩ := h
  exact ⟨h1, _, h2, h5, h6⟩
section
variable {w : World}
theorem row_cell {e : TypeId} {base n : Nat} {v : Value} {xs : List Value} (h : w.ownsRow base e 1 v n xs) {i : Nat} {x : Value} (hi : xs[i]? = some x) : ∃ g c, v = .slice (some ⟨g, 0, none⟩) n c ∧ w.cell? ⟨g, i, none⟩ = some x ∧ w.frozen? ⟨g, i, none⟩ = false := by
  have hl := h.1
  have hi' := (List.getElem?_eq_some_iff.1 hi).1
  rcases h.2 with ⟨rfl, rfl⟩ | ⟨g, cap, cur, rfl, _, hg, _, _, _, ht⟩
  · omega
  · refine ⟨g, cap, rfl, ?_, frozen_of_row _ _ _ _ _ hg⟩
    rw [cell_of_row _ _ _ _ _ _ hg, ← hi, ← ht, List.getElem?_take_of_lt (by omega), Array.getElem?_toList]
theorem row_set1 {e : TypeId} {g n c i : Nat} {xs : List Value} (x : Value) : ∀ F1, (Pc.row e 1 (.slice (some ⟨g, 0, none⟩) n c) n xs).A w F1 → Post (Pc.row e 1 (.slice (some ⟨g, 0, none⟩) n c) n (xs.set i x)) w F1 (w.setCell ⟨g, i, none⟩ x) := by
  rintro F1 ⟨⟨h1, hh⟩, rfl⟩
  rcases hh with ⟨he, _⟩ | ⟨g2, cap, cur, he, hb, hg, hn, hc, hs, ht⟩
  · cases he
  · simp only [Value.slice.injEq, Option.some.injEq, Addr.mk.injEq, true_and, and_true] at he
    obtain ⟨rfl, rfl⟩ := he
    refine ⟨[g], ⟨⟨by simpa using h1, .inr ⟨g, c, _, rfl, hb, heap_setCell_same _ _ _ _ _ _ hg, hn, hc, by simpa using hs, ?_⟩⟩, rfl⟩, (Mods.refl _ _).setCell (p := ⟨g, i, none⟩) (Or.inl (by simp [Value.ownBlock])) x, fun _ hk => Or.inl (by simpa [Value.ownBlock] using hk)⟩
    rw [← ht, Array.toList_setIfInBounds, List.take_set]
end
theorem grown_drew {w w2 : World} {o : Obj} {r : Option Nat} (h : ((w.alloc o).drew).grownBy w2 r) : (w.drew.alloc o).grownBy w2 r := h
theorem row_cell5 {e : TypeId} {base g n c k : Nat} {xs : List Value} {w : World} (h : w.ownsRow base e 1 (.slice (some ⟨g, 0, none⟩) n c) n xs) (hk : k < n) : (∃ x, w.cell? ⟨g, k, none⟩ = some x) ∧ w.frozen? ⟨g, k, none⟩ = false := by
  have hl := h.1
  obtain ⟨x, hx⟩ : ∃ x, xs[k]? = some x := ⟨_, List.getElem?_eq_getElem (by omega)⟩
  obtain ⟨g2, c2, e1, h1, h2⟩ := row_cell h hx
  cases e1
  exact ⟨⟨x, h1⟩, h2⟩
section
variable {P : Program}
/-- The row, with some cells written over. -/
def spl (xs : List Value) (o : Nat) (vs : List Value) : List Value := xs.take o ++ vs ++ xs.drop (o + vs.length)
theorem wp_store_rowmid {op : Oper} {a : Act} {w : World} {K : Act → World → Prop} {Q : Exit → Act → World → Prop} (ty : TypeId) (x y : Operand) (ho : op.op = .store ty x y)
    (g o : Nat) (cells : Array Value) (hx : a.eval x = .pointer (some ⟨g, o, none⟩)) (hy : a.eval y = .agg cells)
    (t : TypeId) (old : Array Value) (hg : w.heap[g]? = some (.cells old t (0, 0))) (hi : (P.info? ty).map (·.size) = some cells.size) (hle : o + cells.size ≤ old.size) (h1 : ∀ v ∈ cells.toList, v.oneCell' = true)
    (h : K (a.put op.dst undef) (w.setRow g (spl old.toList o cells.toList).toArray)) : op.wp P a w K Q := by
  have hr := run_storeCells_at P g o t cells.toList 0 old w hg (by simp; omega) h1
  simp only [Nat.add_zero] at hr
  have hv : (storeVar ty ⟨g, o, none⟩ (.agg cells)).run P w = .ok () (w.setRow g (spl old.toList o cells.toList).toArray) := by
    cases hq : P.info? ty with
    | none => simp [hq] at hi
    | some i =>
      have hs : cells.size = i.size := by simp [hq] at hi; omega
      simp [storeVar, sizeOf, typeInfo, hq, Value.cells, hs, hr, spl]
  unfold Oper.wp execOp
  simp only [ho, hx, hy, Instr.storeAt, Instr.sureAddr, Sem.run_bind, Sem.run_pure, Result.andThen_ok, hv]
  exact h
theorem wpList_store_rowmid {ops : Array Oper} {rest : List Oper} {op : Oper} {a : Act} {w : World} {Q : Exit → Act → World → Prop} (hgd : op.guard = none) (ty : TypeId) (x y : Operand) (ho : op.op = .store ty x y)
    (g o : Nat) (cells : Array Value) (hx : a.eval x = .pointer (some ⟨g, o, none⟩)) (hy : a.eval y = .agg cells)
    (t : TypeId) (old : Array Value) (hg : w.heap[g]? = some (.cells old t (0, 0))) (hi : (P.info? ty).map (·.size) = some cells.size) (hle : o + cells.size ≤ old.size) (h1 : ∀ v ∈ cells.toList, v.oneCell' = true)
    (h : wpList P ops Q rest (a.put op.dst undef) (w.setRow g (spl old.toList o cells.toList).toArray)) : wpList P ops Q (op :: rest) a w :=
  wpList_plain hgd fun _ hK => wp_store_rowmid ty x y ho g o cells hx hy t old hg hi hle h1 (hK _ _ h)
end
theorem spl_take (old : List Value) (o N : Nat) (vs : List Value) (h : o + vs.length ≤ N) (hN : N ≤ old.length) : (spl old o vs).take N = spl (old.take N) o vs := by
  unfold spl
  have e1 : (old.take o ++ vs).length = o + vs.length := by simp; omega
  rw [List.take_append, List.take_of_length_le (by omega), e1, List.take_take, show min o N = o by omega, List.drop_take]
theorem spl_len (old : List Value) (o : Nat) (vs : List Value) (h : o + vs.length ≤ old.length) : (spl old o vs).length = old.length := by
  unfold spl
  simp
  omega
/-- A row of which cells were written over. -/
theorem row_spl {e : TypeId} {size : Nat} {g n c : Nat} {xs : List Value} {w : World} {old : Array Value} {t : TypeId} (hg : w.heap[g]? = some (.cells old t (0, 0))) (o : Nat) (vs : List Value) (h : o + vs.length ≤ n * size) :
    ∀ F1, (Pc.row e size (.slice (some ⟨g, 0, none⟩) n c) n xs).A w F1 → Post (Pc.row e size (.slice (some ⟨g, 0, none⟩) n c) n (spl xs o vs)) w F1 (w.setRow g (spl old.toList o vs).toArray) := by
  rintro F1 ⟨⟨h1, hh⟩, rfl⟩
  rcases hh with ⟨he, _⟩ | ⟨g2, cap, cur, he, hb, hg2, hn, hc, hsz, hx⟩
  · cases he
  · simp only [Value.slice.injEq, Option.some.injEq, Addr.mk.injEq, true_and, and_true] at he
    obtain ⟨rfl, rfl⟩ := he
    rw [hg] at hg2
    simp only [Option.some.injEq, Obj.cells.injEq, and_true] at hg2
    obtain ⟨rfl, rfl⟩ := hg2
    have hl : n * size ≤ old.toList.length := by
      rw [Array.length_toList, hsz]
      exact Nat.mul_le_mul_right _ hn
    refine ⟨[g], ⟨⟨?_, .inr ⟨g, c, (spl old.toList o vs).toArray, rfl, hb, setRow_heap w g old _ _ _ hg, hn, hc, ?_, ?_⟩⟩, rfl⟩, ⟨rfl, rfl, rfl, by simp, fun k _ hk => setRow_other w g k _ (fun e => hk (by subst e; simp [Value.ownBlock]))⟩, fun _ hk => Or.inl (by simpa [Value.ownBlock] using hk)⟩
    · rw [spl_len _ _ _ (by rw [h1]; exact h), h1]
    · simp only [List.size_toArray]
      rw [spl_len _ _ _ (by omega), Array.length_toList, hsz]
    · rw [List.toList_toArray, spl_take _ _ _ _ h hl, hx]
theorem Post.ownAt {p : Pc} {w0 w : World} {F : List Nat} {e : TypeId} {size : Nat} {g n c : Nat} {xs : List Value} (h : Post p w0 F w) (hp : Pc.Ent p (Pc.row e size (.slice (some ⟨g, 0, none⟩) n c) n xs)) :
    ∃ old : Array Value, w.heap[g]? = some (.cells old e (0, 0)) ∧ n * size ≤ old.size := by
  obtain ⟨h1, hh⟩ := h.rowAt hp
  rcases hh with ⟨he, _⟩ | ⟨g2, cap, cur, he, hb, hg2, hn, hc, hsz, hx⟩
  · cases he
  · simp only [Value.slice.injEq, Option.some.injEq, Addr.mk.injEq, true_and, and_true] at he
    obtain ⟨rfl, rfl⟩ := he
    exact ⟨cur, hg2, by rw [hsz]; exact Nat.mul_le_mul_right _ hn⟩
section
variable {P : Program} {ops : Array Oper} {C : World → Prop}
theorem wpQuiet_wantM {Q : Act → Prop} {a : Act} {o : Oper} {rest : List Oper} (hw : Region.wanted o (yielded ops a.tmps) = true) (h : o.quiet P a C (wpQuiet P ops C Q rest)) : wpQuiet P ops C Q (o :: rest) a := by
  unfold wpQuiet
  rw [if_pos hw]
  exact h
theorem wpQuiet_load_cell {Q : Act → Prop} {a : Act} {o : Oper} {rest : List Oper} (hw : Region.wanted o (yielded ops a.tmps) = true) (ty : TypeId) (x : Operand) (ho : o.op = .load ty x)
    (ad : Addr) (hx : a.eval x = .pointer (some ad)) (v : Value) (hg : ∀ w', C w' → w'.cell? ad = some v) (ha : ∀ w', (isAgg ty).run P w' = .ok false w')
    (h : wpQuiet P ops C Q rest (a.put o.dst v)) : wpQuiet P ops C Q (o :: rest) a := by
  refine wpQuiet_wantM hw ⟨v, fun w' hw' => ?_, h⟩
  unfold Oper.quietAt execOp
  simp only [ho, hx, Instr.loadAt, Instr.sureAddr, Sem.run_bind, Sem.run_pure, Result.andThen_ok, loadVar, ha, Bool.false_eq_true, if_false, run_load, hg w' hw']
  exact ⟨rfl, rfl⟩
end
end Me
theorem made_one (z : Value) (n : Nat) : madeCells #[z] n = Array.replicate n z := by
  apply Array.ext
  · simp [madeCells]
  · intro i h1 h2
    simp [madeCells, Nat.mod_one]
theorem mark_at (l : List UInt8) (M : List Value) (i : Nat) (v : Value) (h : M[i]? = some v) : (l.map byteV ++ M).toArray[l.length + i]? = some v := by
  rw [List.getElem?_toArray, List.getElem?_append_right (by simp), List.length_map, show l.length + i - l.length = i by omega]
  exact h
theorem mark_set (l : List UInt8) (k i : Nat) (hk : k = l.length + i) (M : List Value) (v : Value) (M' : List Value) (h : M.set i v = M') : (l.map byteV ++ M).toArray.setIfInBounds k v = (l.map byteV ++ M').toArray := by
  subst h
  subst hk
  rw [List.setIfInBounds_toArray, List.set_append, if_neg (by simp), List.length_map, show l.length + i - l.length = i by omega]
theorem Rd.modsN {w w' : World} {v : Value} {xs : List Value} {F : List Nat} (h : Rd w v xs) (hm : Mods F w w') (hn : xs ≠ [] → ∀ k, v.ownBlock = some k → k ∉ F) : Rd w' v xs := by
  by_cases hx : xs = []
  · subst hx
    obtain ⟨A, c, rfl, h1, h2, -⟩ := h
    exact ⟨A, c, rfl, h1, h2, fun j u hu => by simp at hu⟩
  · exact h.mods hm (hn hx)
end Go.Proofs.YtmcekhgmmocajaaGreatDoor
namespace Go.Proofs.YtmcekhgmmocajaaGreatDoor
open Go Go.RowKit Me

def rowOf (v : Value) (bs : List UInt8) : Pc := Pc.row 5 1 v bs.length (bs.map byteV)
/-- A list that came out, and its copy. -/
structure It where
  v : Value
  u : Value
  bs : List UInt8
def itemP (x : It) : Pc := (rowOf x.v x.bs).star (rowOf x.u x.bs)
def items : List It → Pc
  | [] => Pc.emp
  | x :: I => (itemP x).star (items I)
theorem items_snoc : ∀ (I : List It) (x : It), Pc.Ent ((itemP x).star (items I)) (items (I ++ [x]))
  | [], _ => Pc.Ent.refl _
  | _ :: I, x => (Pc.Ent.swap _ _ _).trans ((Pc.Ent.refl _).mono (items_snoc I x))
theorem items_pick : ∀ (I : List It) (i : Nat) (x : It), I[i]? = some x → Pc.Ent (items I) ((itemP x).star (items (I.eraseIdx i)))
  | [], i, x, h => by simp at h
  | y :: I, 0, x, h => by
    simp at h
    subst h
    exact Pc.Ent.refl _
  | y :: I, i + 1, x, h => ((Pc.Ent.refl _).mono (items_pick I i x (by simpa using h))).trans (Pc.Ent.swap _ _ _)
theorem items_put : ∀ (I : List It) (i : Nat) (x : It), i < I.length → Pc.Ent ((itemP x).star (items (I.eraseIdx i))) (items (I.set i x))
  | [], i, x, h => by simp at h
  | y :: I, 0, x, h => Pc.Ent.refl _
  | y :: I, i + 1, x, h => (Pc.Ent.swap _ _ _).trans ((Pc.Ent.refl _).mono (items_put I i x (by simpa using h)))
/-- A list of something else, by its cells. -/
structure Rg where
  v : Value
  n : Nat
  xs : List Value
def rgP (e : TypeId) (size : Nat) (x : Rg) : Pc := Pc.row e size x.v x.n x.xs
def rgs (e : TypeId) (size : Nat) : List Rg → Pc
  | [] => Pc.emp
  | x :: J => (rgP e size x).star (rgs e size J)
theorem rgs_snoc {e : TypeId} {size : Nat} : ∀ (I : List Rg) (x : Rg), Pc.Ent ((rgP e size x).star (rgs e size I)) (rgs e size (I ++ [x]))
  | [], _ => Pc.Ent.refl _
  | _ :: I, x => (Pc.Ent.swap _ _ _).trans ((Pc.Ent.refl _).mono (rgs_snoc I x))
theorem rgs_pick {e : TypeId} {size : Nat} : ∀ (I : List Rg) (i : Nat) (x : Rg), I[i]? = some x → Pc.Ent (rgs e size I) ((rgP e size x).star (rgs e size (I.eraseIdx i)))
  | [], i, x, h => by simp at h
  | y :: I, 0, x, h => by
    simp at h
    subst h
    exact Pc.Ent.refl _
  | y :: I, i + 1, x, h => ((Pc.Ent.refl _).mono (rgs_pick I i x (by simpa using h))).trans (Pc.Ent.swap _ _ _)
theorem rgs_put {e : TypeId} {size : Nat} : ∀ (I : List Rg) (i : Nat) (x : Rg), i < I.length → Pc.Ent ((rgP e size x).star (rgs e size (I.eraseIdx i))) (rgs e size (I.set i x))
  | [], i, x, h => by simp at h
  | y :: I, 0, x, h => Pc.Ent.refl _
  | y :: I, i + 1, x, h => (Pc.Ent.swap _ _ _).trans ((Pc.Ent.refl _).mono (rgs_put I i x (by simpa using h)))
/-- The Book's cells; its rows. -/
def BkC (b : Nat) (vb vc ve vd : Value) : Pc := Pc.blk b (.cells #[vb, vc, ve, vd] 41)
def RbI (vb vc : Value) (I : List It) : Pc := (Pc.row 22 1 vb I.length (I.map It.v)).star ((Pc.row 22 1 vc I.length (I.map It.u)).star (items I))
def RgJ (T e : TypeId) (size : Nat) (vs : Value) (J : List Rg) : Pc := (Pc.row T 1 vs J.length (J.map Rg.v)).star (rgs e size J)
/-- The Book opened. -/
def BkO (b : Nat) (vb vc ve vd : Value) (I : List It) (J D : List Rg) (R : Pc) : Pc :=
  (BkC b vb vc ve vd).star ((RbI vb vc I).star ((RgJ 23 47 5 ve J).star ((RgJ 49 54 3 vd D).star R)))
structure BkOk (i j B : Nat) (I : List It) (J D : List Rg) : Prop where
  li : I.length ≤ i
  lj : J.length ≤ j
  ld : D.length ≤ j
  bi : ∀ x ∈ I, x.bs.length ≤ B
  bj : ∀ x ∈ J, x.n ≤ B
  bd : ∀ x ∈ D, x.n ≤ B
/-- The Book whole: at most i lists of bytes, at most j lists of entries and of changes, none longer than B. -/
def BkN (b i j B : Nat) : Pc := Pc.ex fun I : List It => Pc.ex fun J : List Rg => Pc.ex fun D : List Rg => Pc.when (BkOk i j B I J D) (Pc.ex fun vb => Pc.ex fun vc => Pc.ex fun ve => Pc.ex fun vd =>
  (BkC b vb vc ve vd).star ((RbI vb vc I).star ((RgJ 23 47 5 ve J).star (RgJ 49 54 3 vd D))))
section
variable {w0 w : World} {F : List Nat} {b i j B : Nat} {R : Pc}
theorem BkN.open (h : Post ((BkN b i j B).star R) w0 F w) : ∃ I J D vb vc ve vd, BkOk i j B I J D ∧ Post (BkO b vb vc ve vd I J D R) w0 F w := by
  obtain ⟨F9, ⟨F1, F2, ⟨I, J, D, hok, vb, vc, ve, vd, h1⟩, h2, n1, rfl⟩, m1, m2⟩ := h
  have hp : Post (((BkC b vb vc ve vd).star ((RbI vb vc I).star ((RgJ 23 47 5 ve J).star (RgJ 49 54 3 vd D)))).star R) w0 F w := ⟨_, ⟨F1, F2, h1, h2, n1, rfl⟩, m1, m2⟩
  exact ⟨I, J, D, vb, vc, ve, vd, hok, hp.ent ((Pc.Ent.assoc _ _ _).trans ((Pc.Ent.refl _).mono ((Pc.Ent.assoc _ _ _).trans ((Pc.Ent.refl _).mono (Pc.Ent.assoc _ _ _)))))⟩
theorem BkN.shut {I : List It} {J D : List Rg} {vb vc ve vd : Value} (hok : BkOk i j B I J D) (h : Post (BkO b vb vc ve vd I J D R) w0 F w) : Post ((BkN b i j B).star R) w0 F w := by
  obtain ⟨F9, ⟨F1, F2, h1, h2, n1, rfl⟩, m1, m2⟩ := h.ent (((Pc.Ent.refl _).mono (((Pc.Ent.refl _).mono (Pc.Ent.assoc' _ _ _)).trans (Pc.Ent.assoc' _ _ _))).trans (Pc.Ent.assoc' _ _ _))
  exact ⟨_, ⟨F1, F2, ⟨I, J, D, hok, vb, vc, ve, vd, h1⟩, h2, n1, rfl⟩, m1, m2⟩
theorem BkOk.mono {i j B i' j' B' : Nat} {I : List It} {J D : List Rg} (h : BkOk i j B I J D) (h1 : i ≤ i') (h2 : j ≤ j') (h3 : B ≤ B') : BkOk i' j' B' I J D :=
  ⟨Nat.le_trans h.li h1, Nat.le_trans h.lj h2, Nat.le_trans h.ld h2, fun x hx => Nat.le_trans (h.bi x hx) h3, fun x hx => Nat.le_trans (h.bj x hx) h3, fun x hx => Nat.le_trans (h.bd x hx) h3⟩
theorem BkN.up {i' j' B' : Nat} (h : Post ((BkN b i j B).star R) w0 F w) (h1 : i ≤ i') (h2 : j ≤ j') (h3 : B ≤ B') : Post ((BkN b i' j' B').star R) w0 F w := by
  obtain ⟨I, J, D, vb, vc, ve, vd, hok, hp⟩ := BkN.open h
  exact BkN.shut (hok.mono h1 h2 h3) hp
end
theorem info22 : (Tryz.prog.info? 22).map (fun i => (i.zero, i.size, i.bytes)) = some (some (.slice none 0 0), 1, 24) := by kernel_rfl
theorem info23 : (Tryz.prog.info? 23).map (fun i => (i.zero, i.size, i.bytes)) = some (some (.slice none 0 0), 1, 24) := by kernel_rfl
theorem info49 : (Tryz.prog.info? 49).map (fun i => (i.zero, i.size, i.bytes)) = some (some (.slice none 0 0), 1, 24) := by kernel_rfl
theorem bcell4 {w : World} {a : Nat} {x0 x1 x2 x3 : Value} {T : TypeId} (h : w.heap[a]? = some (.cells #[x0, x1, x2, x3] T (0, 0))) :
    w.cell? ⟨a, 0, none⟩ = some x0 ∧ w.cell? ⟨a, 1, none⟩ = some x1 ∧ w.cell? ⟨a, 2, none⟩ = some x2 ∧ w.cell? ⟨a, 3, none⟩ = some x3 ∧
    w.frozen? ⟨a, 0, none⟩ = false ∧ w.frozen? ⟨a, 1, none⟩ = false ∧ w.frozen? ⟨a, 2, none⟩ = false ∧ w.frozen? ⟨a, 3, none⟩ = false := by
  refine ⟨?_, ?_, ?_, ?_, frozen_of_row _ _ _ _ _ h, frozen_of_row _ _ _ _ _ h, frozen_of_row _ _ _ _ _ h, frozen_of_row _ _ _ _ _ h⟩ <;> (rw [cell_of_row _ _ _ _ _ _ h]; rfl)
set_option maxRecDepth 100000 in
set_option maxHeartbeats 1000000 in
theorem keeps_any {w : World} {b : Nat} {vb vc ve vd v vw : Value} {I : List It} {bs : List UInt8} {F : List Nat}
    (h : ((rowOf v bs).star ((rowOf vw bs).star ((BkC b vb vc ve vd).star (RbI vb vc I)))).A w F) (hl : bs.length ≤ 1000000000) (hI : I.length ≤ 1000000000000) :
    Calls Tryz.prog 72 #[.pointer (some ⟨b, 0, none⟩), v, vw] w fun e w' => e = .returned (.bool true) ∧ Post (Pc.ex fun u => Pc.ex fun vb' => Pc.ex fun vc' => (rowOf vw bs).star ((BkC b vb' vc' ve vd).star (RbI vb' vc' (I ++ [(⟨v, u, bs⟩ : It)])))) w F w' := by
  have hp := (Post.start h).ent (Pc.perm [rowOf v bs, rowOf vw bs, BkC b vb vc ve vd, Pc.row 22 1 vb I.length (I.map It.v), Pc.row 22 1 vc I.length (I.map It.u), items I] [2, 3, 4, 0, 1, 5] (n := 6) (by decide))
  have H0 : Hid (Post ((BkC b vb vc ve vd).star ((Pc.row 22 1 vb I.length (I.map It.v)).star ((Pc.row 22 1 vc I.length (I.map It.u)).star ((rowOf v bs).star ((rowOf vw bs).star (items I)))))) w F w) := Lib.hid hp
  obtain ⟨c0, c1, -, -, f0, f1, -, -⟩ := bcell4 (H0.out.blkOf (Pc.Ent.left _ _))
  have hf := H0.out.rowAt ((Pc.Ent.right _ _).trans (Pc.Ent.left _ _))
  have hv := H0.out.rowAt ((Pc.Ent.right _ _).trans ((Pc.Ent.right _ _).trans ((Pc.Ent.right _ _).trans (Pc.Ent.left _ _))))
  have hw := H0.out.rowAt ((Pc.Ent.right _ _).trans ((Pc.Ent.right _ _).trans ((Pc.Ent.right _ _).trans ((Pc.Ent.right _ _).trans (Pc.Ent.left _ _)))))
  obtain ⟨Aw, cw, rfl⟩ := own_ctor hw
  obtain ⟨Av, cv, rfl⟩ := own_ctor hv
  obtain ⟨Af, cf, rfl⟩ := own_ctor hf
  have HF := Lib.hid hf
  clear h hp hv hf hw
  obtain ⟨i0, hi, hz0, hz1, hz2⟩ := info_parts info5
  obtain ⟨i1, hj, hy0, hy1, hy2⟩ := info_parts info22
  go_enter Tryz.func72, Tryz.ntmps72
  go_wp2_with (first | (at_builtin; go_must (refine wpList_app _ rfl _ _ 37 37 rfl 0 22 i1 (.slice none 0 0) 1 24 Tryz.underlying37 hj hy0 hy1 hy2 rfl _ _ _ rfl (HF.out.alloc _) _ 1 [.slice Av bs.length cv] rfl ?c1 ?c2 ?c3 ?c4 ?_)))
  case c1 => exact src_one Tryz.underlying37 _ _ _ rfl
  case c2 => unfold maxLen; omega
  case c3 => omega
  case c4 => exact Nat.zero_le _
  intro v2 w2 hown hgrow hat
  have hp2 := ((H0.out.ent (Pc.Ent.swap _ _ _)).step (row_turn hown hgrow (by simpa using hat))).ent (Pc.Ent.swap _ _ _)
  obtain ⟨d0, -, -, -, g0, -, -, -⟩ := bcell4 (hp2.blkOf (Pc.Ent.left _ _))
  obtain ⟨A2, c2, rfl⟩ := own_ctor hown
  have hp3 := hp2.step (blk_turn (i := 0) (.slice A2 (I.length + 1) c2))
  have H3 : Hid (Post ((BkC b (.slice A2 (I.length + 1) c2) vc ve vd).star _) w F (w2.setCell ⟨b, 0, none⟩ (.slice A2 (I.length + 1) c2))) := Lib.hid hp3
  clear hown hgrow hat hp2 hp3 c0 c1 f0 f1 HF
  go_upto_region 3 with fail
  clear d0 g0
  generalize w2.setCell ⟨b, 0, none⟩ (.slice A2 (I.length + 1) c2) = w3 at *
  have hp3 := H3.out.still (w' := w3.drew) (Mods.refl [] w3).drew
  have HP3 := Lib.hid hp3
  have HV3 := Lib.hid (hp3.rowAt ((Pc.Ent.right _ _).trans ((Pc.Ent.right _ _).trans ((Pc.Ent.right _ _).trans ((Pc.Ent.right _ _).trans (Pc.Ent.left _ _))))))
  have hc3 := hp3.rowAt ((Pc.Ent.right _ _).trans ((Pc.Ent.right _ _).trans (Pc.Ent.left _ _)))
  obtain ⟨Ac, cc, rfl⟩ := own_ctor hc3
  obtain ⟨k0, k1, -, -, l0, l1, -, -⟩ := bcell4 (hp3.blkOf (Pc.Ent.left _ _))
  clear H3 hp3 hc3 H0
  go_region_law (first
    | (refine step_app rfl _ _ 37 37 rfl 0 22 i1 (.slice none 0 0) 1 24 Tryz.underlying37 hj hy0 hy1 hy2 rfl (.slice Ac I.length cc) I.length (I.map It.u) rfl (HC5.out.alloc _) (.slice (some ⟨w5.heap.size, 0, none⟩) 1 1) 1 [.slice A5 bs.length c5] rfl (src_one Tryz.underlying37 _ _ _ rfl) (by unfold maxLen; omega) (by omega) (Nat.zero_le _) ?_; intro vc2 w6 hown hgrow hat; have hp6 := ((HP5.out.ent (Pc.Ent.at4 _ _ _ _ _)).step (row_turn hown hgrow (by simpa using hat))).ent (Pc.Ent.at3 _ _ _ _); have HP6 := Lib.hid hp6; obtain ⟨A6, c6, rfl⟩ := own_ctor hown; obtain ⟨-, n1, -, -, -, o1, -, -⟩ := bcell4 (hp6.blkOf (Pc.Ent.left _ _)); clear hown hgrow hat hp6)
    | (refine step_app rfl _ _ 22 22 rfl w3.drew.heap.size 5 i0 (.int .u8 0) 1 1 Tryz.underlying22 hi hz0 hz1 hz2 rfl (.slice none 0 0) 0 [] rfl (World.ownsRow_nil _ _ _ _) (.slice Aw bs.length cw) bs.length (bs.map byteV) rfl (src_own Tryz.underlying22 HV3.out (bytes_one _)) (by unfold maxLen; omega) (by omega) (Nat.le_refl _) ?_; intro u w5 hown hgrow hat; simp only [Nat.zero_add, List.nil_append] at hown; have hp5 := HP3.out.add (q := rowOf u bs) ((Mods.refl [] w3.drew).grown hgrow (by simp [Value.ownBlock])) ⟨ownsRow_base (by simpa using hown) (Nat.zero_le _), rfl⟩ (fun k hk => (hown.lt k (by simpa using hk)).1); have HP5 := Lib.hid hp5; have HC5 := Lib.hid (hp5.rowAt ((Pc.Ent.at4 _ _ _ _ _).trans (Pc.Ent.left _ _))); obtain ⟨A5, c5, rfl⟩ := own_ctor hown; obtain ⟨-, m1, -, -, -, m1', -, -⟩ := bcell4 (hp5.blkOf ((Pc.Ent.right _ _).trans (Pc.Ent.left _ _))); have m1a : (w5.alloc (.cells #[.slice A5 bs.length c5] 22)).cell? ⟨b, 1, none⟩ = some (.slice Ac I.length cc) := (by rw [((Mods.refl [] w5).alloc _).cell (World.block_lt_of_cell? _ _ m1) (by simp)]; exact m1); clear hown hgrow hat hp5))
  all_goals
    have hp7 := HP6.out.step (blk_turn (i := 1) (.slice A6 (I.length + 1) c6))
    have hp8 : Post ((rowOf (.slice Aw bs.length cw) bs).star ((BkC b (.slice A2 (I.length + 1) c2) (.slice A6 (I.length + 1) c6) ve vd).star ((Pc.row 22 1 (.slice A2 (I.length + 1) c2) (I.length + 1) (I.map It.v ++ [.slice Av bs.length cv])).star
      ((Pc.row 22 1 (.slice A6 (I.length + 1) c6) (I.length + 1) (I.map It.u ++ [.slice A5 bs.length c5])).star ((rowOf (.slice Av bs.length cv) bs).star ((rowOf (.slice A5 bs.length c5) bs).star (items I))))))) w F _ :=
      hp7.ent (Pc.perm [_, _, _, _, _, _, _] [5, 0, 3, 1, 4, 2, 6] (n := 7) (by decide))
    have hcv := conv_rd (Rd.of_own (hp8.rowAt ((Pc.Ent.right _ _).trans ((Pc.Ent.right _ _).trans ((Pc.Ent.right _ _).trans ((Pc.Ent.right _ _).trans (Pc.Ent.left _ _)))))))
    have hcw := conv_rd (Rd.of_own (hp8.rowAt (Pc.Ent.left _ _)))
    have hp9 : Post (Pc.ex fun u => Pc.ex fun vb' => Pc.ex fun vc' => (rowOf (.slice Aw bs.length cw) bs).star ((BkC b vb' vc' ve vd).star (RbI vb' vc' (I ++ [⟨.slice Av bs.length cv, u, bs⟩])))) w F _ :=
      hp8.ent (Pc.Ent.to (.slice A5 bs.length c5) (Pc.Ent.to (.slice A2 (I.length + 1) c2) (Pc.Ent.to (.slice A6 (I.length + 1) c6) ((Pc.Ent.refl _).mono ((Pc.Ent.refl _).mono (by
        unfold RbI
        simp only [List.length_append, List.length_cons, List.length_nil, Nat.zero_add, List.map_append, List.map_cons, List.map_nil]
        exact (Pc.Ent.refl _).mono ((Pc.Ent.refl _).mono ((Pc.Ent.assoc' _ _ _).trans (items_snoc I ⟨.slice Av bs.length cv, .slice A5 bs.length c5, bs⟩)))))))))
    have H9 := Lib.hid hp9
    clear hp7 hp8 hp9
    go_wp2_with fail
    go_ret
    exact ⟨rfl, H9.out⟩
section
variable {w0 w : World} {F : List Nat} {b i j B : Nat} {R : Pc}
/-- keeps, with all else about. -/
theorem BkN.keeps {v vw : Value} {bs : List UInt8} (h : Post ((rowOf v bs).star ((rowOf vw bs).star ((BkN b i j B).star R))) w0 F w) (hl : bs.length ≤ B) (hB : B ≤ 1000000000) (hi : i ≤ 1000000000000) :
    Calls Tryz.prog 72 #[.pointer (some ⟨b, 0, none⟩), v, vw] w fun e w' => e = .returned (.bool true) ∧ Post ((rowOf vw bs).star ((BkN b (i + 1) j B).star R)) w0 F w' := by
  obtain ⟨I, J, D, vb, vc, ve, vd, hok, hp⟩ := BkN.open (h.ent (Pc.Ent.at3 _ _ _ _))
  have h1 : Post (((rowOf v bs).star ((rowOf vw bs).star ((BkC b vb vc ve vd).star (RbI vb vc I)))).star ((RgJ 23 47 5 ve J).star ((RgJ 49 54 3 vd D).star R))) w0 F w :=
    hp.ent ((Pc.perm [BkC b vb vc ve vd, RbI vb vc I, RgJ 23 47 5 ve J, RgJ 49 54 3 vd D, rowOf v bs, rowOf vw bs, R] [4, 5, 0, 1, 2, 3, 6] (n := 7) (by decide)).trans
      ((((Pc.Ent.refl _).mono ((Pc.Ent.refl _).mono (Pc.Ent.assoc' _ _ _))).trans ((Pc.Ent.refl _).mono (Pc.Ent.assoc' _ _ _))).trans (Pc.Ent.assoc' _ _ _)))
  refine (Post.call h1 fun F1 hF => keeps_any hF (by omega) (by have := hok.li; omega)).mono ?_
  rintro e w' ⟨he, F1, ⟨F2, F3, ⟨u, vb2, vc2, h2⟩, h3, h4, rfl⟩, h5, h6⟩
  have hp2 : Post (((rowOf vw bs).star ((BkC b vb2 vc2 ve vd).star (RbI vb2 vc2 (I ++ [(⟨v, u, bs⟩ : It)])))).star ((RgJ 23 47 5 ve J).star ((RgJ 49 54 3 vd D).star R))) w0 F w' := ⟨_, ⟨F2, F3, h2, h3, h4, rfl⟩, h5, h6⟩
  have hp3 : Post (BkO b vb2 vc2 ve vd (I ++ [(⟨v, u, bs⟩ : It)]) J D ((rowOf vw bs).star R)) w0 F w' :=
    hp2.ent (((Pc.Ent.assoc _ _ _).trans ((Pc.Ent.refl _).mono (Pc.Ent.assoc _ _ _))).trans (Pc.perm [rowOf vw bs, BkC b vb2 vc2 ve vd, RbI vb2 vc2 (I ++ [(⟨v, u, bs⟩ : It)]), RgJ 23 47 5 ve J, RgJ 49 54 3 vd D, R] [1, 2, 3, 4, 0, 5] (n := 6) (by decide)))
  refine ⟨he, (BkN.shut ⟨by have := hok.li; simp; omega, hok.lj, hok.ld, fun x hx => ?_, hok.bj, hok.bd⟩ hp3).ent (Pc.Ent.swap _ _ _)⟩
  rcases List.mem_append.1 hx with hx | hx
  · exact hok.bi x hx
  · simp at hx
    subst hx
    exact hl
end
theorem flat7 (C rb rc pv pu it Z : Pc) : Pc.Ent (C.star ((rb.star (rc.star ((pv.star pu).star it))).star Z)) (pv.star (pu.star (it.star (C.star (rb.star (rc.star Z)))))) :=
  ((Pc.Ent.refl C).mono ((Pc.Ent.assoc rb _ Z).trans ((Pc.Ent.refl rb).mono ((Pc.Ent.assoc rc _ Z).trans ((Pc.Ent.refl rc).mono ((Pc.Ent.assoc (pv.star pu) it Z).trans (Pc.Ent.assoc pv pu _))))))).trans
    (Pc.perm [C, rb, rc, pv, pu, it, Z] [3, 4, 5, 0, 1, 2, 6] (n := 7) (by decide))
theorem flat7' (C rb rc pv pu it Z : Pc) : Pc.Ent (pv.star (pu.star (it.star (C.star (rb.star (rc.star Z)))))) (C.star ((rb.star (rc.star ((pv.star pu).star it))).star Z)) :=
  (Pc.perm [pv, pu, it, C, rb, rc, Z] [3, 4, 5, 0, 1, 2, 6] (n := 7) (by decide)).trans
    ((Pc.Ent.refl C).mono (((Pc.Ent.refl rb).mono (((Pc.Ent.refl rc).mono ((Pc.Ent.assoc' pv pu _).trans (Pc.Ent.assoc' (pv.star pu) it Z))).trans (Pc.Ent.assoc' rc _ Z))).trans (Pc.Ent.assoc' rb _ Z)))
theorem set_self {α : Type} {l : List α} {i : Nat} {x : α} (h : l[i]? = some x) : l.set i x = l := by
  refine List.ext_getElem? fun j => ?_
  rw [List.getElem?_set]
  split
  · rename_i e
    subst e
    rw [if_pos (List.getElem?_eq_some_iff.1 h).1, h]
  · rfl
/-- The Book opened at a list of bytes. -/
def OpB (b : Nat) (vb vc ve vd v u : Value) (l m : List UInt8) (it : Pc) (xb xc : List Value) (n : Nat) (Z : Pc) : Pc :=
  (rowOf v l).star ((rowOf u m).star (it.star ((BkC b vb vc ve vd).star ((Pc.row 22 1 vb n xb).star ((Pc.row 22 1 vc n xc).star Z)))))
section
variable {b : Nat} {vb vc ve vd : Value} {I : List It} {J : List Rg} {R Z C : Pc} {T e : TypeId} {size : Nat}
theorem bk_openB {i : Nat} {x : It} (hx : I[i]? = some x) : Pc.Ent ((BkC b vb vc ve vd).star ((RbI vb vc I).star Z)) (OpB b vb vc ve vd x.v x.u x.bs x.bs (items (I.eraseIdx i)) (I.map It.v) (I.map It.u) I.length Z) :=
  ((Pc.Ent.refl _).mono (((Pc.Ent.refl _).mono ((Pc.Ent.refl _).mono (items_pick I i x hx))).mono (Pc.Ent.refl _))).trans (flat7 _ _ _ _ _ _ _)
theorem bk_shutB {i : Nat} {x : It} (hi : i < I.length) : Pc.Ent (OpB b vb vc ve vd x.v x.u x.bs x.bs (items (I.eraseIdx i)) ((I.map It.v).set i x.v) ((I.map It.u).set i x.u) I.length Z) ((BkC b vb vc ve vd).star ((RbI vb vc (I.set i x)).star Z)) := by
  refine (flat7' _ _ _ _ _ _ _).trans ((Pc.Ent.refl _).mono (Pc.Ent.mono ?_ (Pc.Ent.refl _)))
  unfold RbI
  rw [List.length_set, List.map_set, List.map_set]
  exact (Pc.Ent.refl _).mono ((Pc.Ent.refl _).mono (items_put I i x hi))
/-- Opened at another list. -/
def OpG (T e : TypeId) (size : Nat) (C : Pc) (vs : Value) (m : Nat) (xs : List Value) (v : Value) (n : Nat) (cs : List Value) (it Z : Pc) : Pc := (Pc.row e size v n cs).star (it.star (C.star ((Pc.row T 1 vs m xs).star Z)))
theorem bk_openG {vs : Value} {i : Nat} {x : Rg} (hx : J[i]? = some x) : Pc.Ent (C.star ((RgJ T e size vs J).star Z)) (OpG T e size C vs J.length (J.map Rg.v) x.v x.n x.xs (rgs e size (J.eraseIdx i)) Z) :=
  ((Pc.Ent.refl _).mono (((Pc.Ent.refl _).mono (rgs_pick J i x hx)).mono (Pc.Ent.refl _))).trans
    (((Pc.Ent.refl _).mono ((Pc.Ent.assoc _ _ _).trans ((Pc.Ent.refl _).mono (Pc.Ent.assoc _ _ _)))).trans (Pc.perm [C, Pc.row T 1 vs J.length (J.map Rg.v), rgP e size x, rgs e size (J.eraseIdx i), Z] [2, 3, 0, 1, 4] (n := 5) (by decide)))
theorem bk_shutG {vs : Value} {i : Nat} {x : Rg} (hi : i < J.length) : Pc.Ent (OpG T e size C vs J.length ((J.map Rg.v).set i x.v) x.v x.n x.xs (rgs e size (J.eraseIdx i)) Z) (C.star ((RgJ T e size vs (J.set i x)).star Z)) := by
  refine (Pc.perm [Pc.row e size x.v x.n x.xs, rgs e size (J.eraseIdx i), C, Pc.row T 1 vs J.length ((J.map Rg.v).set i x.v), Z] [2, 3, 0, 1, 4] (n := 5) (by decide)).trans ((Pc.Ent.refl _).mono ?_)
  unfold RgJ
  rw [List.length_set, List.map_set]
  exact (((Pc.Ent.refl _).mono (Pc.Ent.assoc' _ _ _)).trans (Pc.Ent.assoc' _ _ _)).trans (((Pc.Ent.refl _).mono (rgs_put J i x hi)).mono (Pc.Ent.refl _))
end
section
variable {b n : Nat} {vb vc ve vd v u : Value} {l m : List UInt8} {it Z : Pc} {xb xc : List Value} {w0 w : World} {F : List Nat}
theorem opB_cells (h : Post (OpB b vb vc ve vd v u l m it xb xc n Z) w0 F w) : w.heap[b]? = some (.cells #[vb, vc, ve, vd] 41 (0, 0)) ∧ w.ownsRow 0 22 1 vb n xb ∧ w.ownsRow 0 22 1 vc n xc ∧ w.ownsRow 0 5 1 v l.length (l.map byteV) ∧ w.ownsRow 0 5 1 u m.length (m.map byteV) :=
  ⟨h.blkOf ((Pc.Ent.right _ _).trans ((Pc.Ent.right _ _).trans ((Pc.Ent.right _ _).trans (Pc.Ent.left _ _)))),
   h.rowAt ((Pc.Ent.right _ _).trans ((Pc.Ent.right _ _).trans ((Pc.Ent.right _ _).trans ((Pc.Ent.right _ _).trans (Pc.Ent.left _ _))))),
   h.rowAt ((Pc.Ent.right _ _).trans ((Pc.Ent.right _ _).trans ((Pc.Ent.right _ _).trans ((Pc.Ent.right _ _).trans ((Pc.Ent.right _ _).trans (Pc.Ent.left _ _)))))),
   h.rowAt (Pc.Ent.left _ _), h.rowAt ((Pc.Ent.right _ _).trans (Pc.Ent.left _ _))⟩
end
/-- The Book's cells and rows, closed. -/
theorem bk_cellsB {b : Nat} {vb vc ve vd : Value} {I : List It} {Z : Pc} {w0 w : World} {F : List Nat} (h : Post ((BkC b vb vc ve vd).star ((RbI vb vc I).star Z)) w0 F w) :
    w.heap[b]? = some (.cells #[vb, vc, ve, vd] 41 (0, 0)) ∧ w.ownsRow 0 22 1 vb I.length (I.map It.v) ∧ w.ownsRow 0 22 1 vc I.length (I.map It.u) :=
  ⟨h.blkOf (Pc.Ent.left _ _), h.rowAt ((Pc.Ent.right _ _).trans ((Pc.Ent.left _ _).trans (Pc.Ent.left _ _))), h.rowAt ((Pc.Ent.right _ _).trans ((Pc.Ent.left _ _).trans ((Pc.Ent.right _ _).trans (Pc.Ent.left _ _))))⟩
theorem bk_cellsG {b : Nat} {vb vc ve vd vs : Value} {T e : TypeId} {size : Nat} {J : List Rg} {Z : Pc} {w0 w : World} {F : List Nat} (h : Post ((BkC b vb vc ve vd).star ((RgJ T e size vs J).star Z)) w0 F w) :
    w.heap[b]? = some (.cells #[vb, vc, ve, vd] 41 (0, 0)) ∧ w.ownsRow 0 T 1 vs J.length (J.map Rg.v) :=
  ⟨h.blkOf (Pc.Ent.left _ _), h.rowAt ((Pc.Ent.right _ _).trans ((Pc.Ent.left _ _).trans (Pc.Ent.left _ _)))⟩
def RelSa (p : Pc) (w0 : World) (F : List Nat) (N : Nat) (i : Value) (wr : World) : Prop := ∃ k : Nat, k ≤ N ∧ i = .int .i64 (k : Int) ∧ Post p w0 F wr
set_option maxRecDepth 100000 in
set_option maxHeartbeats 4000000 in
theorem still_any {w0 w : World} {F : List Nat} {b : Nat} {vb vc ve vd : Value} {I : List It} {Z : Pc} (h : Post ((BkC b vb vc ve vd).star ((RbI vb vc I).star Z)) w0 F w) (hil : I.length ≤ 1000000000000) :
    Calls Tryz.prog 40 #[.pointer (some ⟨b, 0, none⟩)] w fun e w' => e = .returned (.bool true) ∧ Post ((BkC b vb vc ve vd).star ((RbI vb vc I).star Z)) w0 F w' := by
  have H0 := Lib.hid h
  obtain ⟨hb, h1, h2⟩ := bk_cellsB h
  obtain ⟨Ab, cb, rfl⟩ := own_ctor h1
  obtain ⟨Ac, cc, rfl⟩ := own_ctor h2
  clear h hb h1 h2
  go_enter Tryz.func40, Tryz.ntmps40
  go_wp2_with fail
  go_loopw [3] (fun i wr => RelSa ((BkC b (.slice Ab I.length cb) (.slice Ac I.length cc) ve vd).star ((RbI (.slice Ab I.length cb) (.slice Ac I.length cc) I).star Z)) w0 F I.length i wr) (fun i _ => I.length - (intOf i).toNat)
  case atStart => exact ⟨0, by omega, rfl, H0.out⟩
  case round =>
    obtain ⟨k, hk, rfl, hp⟩ := hrel
    have HP := Lib.hid hp
    obtain ⟨hb, h1, h2⟩ := bk_cellsB hp
    obtain ⟨c0, c1, -, -, -, -, -, -⟩ := bcell4 hb
    rcases Nat.lt_or_ge k I.length with hlt | hge
    · obtain ⟨x, hx⟩ : ∃ x, I[k]? = some x := ⟨_, List.getElem?_eq_getElem hlt⟩
      obtain ⟨-, -, -, r1, r2⟩ := opB_cells (hp.ent (bk_openB hx))
      obtain ⟨g1, q1, e1, d1, -⟩ := row_cell h1 (i := k) (x := x.v) (by rw [List.getElem?_map, hx]; rfl)
      obtain ⟨g2, q2, e2, d2, -⟩ := row_cell h2 (i := k) (x := x.u) (by rw [List.getElem?_map, hx]; rfl)
      injection e1 with e1 _ e1c
      injection e2 with e2 _ e2c
      subst e1
      subst e1c
      subst e2
      subst e2c
      have hcv := fun n => conv_rd ((Rd.of_own r1).mods ((Mods.refl [] wr).drewN n) (by simp))
      have hcu := fun n => conv_rd ((Rd.of_own r2).mods ((Mods.refl [] wr).drewN n) (by simp))
      obtain ⟨xv, xu, bs⟩ := x
      simp only at r1 r2 d1 d2 hcv hcu
      obtain ⟨Av, cv, rfl⟩ := own_ctor r1
      obtain ⟨Au, cu, rfl⟩ := own_ctor r2
      clear hp hb h1 h2 hx r1 r2
      go_wp2_with fail
      go_quiet (fail)
      have HR := Lib.hid (HP.out.still ((Mods.refl [] wr).drewN nq))
      clear c0 c1 d1 d2 hcv hcu
      go_wp2_with fail
      exact ⟨⟨k + 1, by omega, rfl, HR.out⟩, by simp only [intOf]; omega⟩
    · obtain rfl : k = I.length := by omega
      clear hp hb h1 h2
      go_wp2_with fail
      go_ret
      exact ⟨rfl, HP.out⟩
end Go.Proofs.YtmcekhgmmocajaaGreatDoor
namespace Go.Proofs.YtmcekhgmmocajaaGreatDoor
open Go.RowKit Me

set_option maxRecDepth 100000 in
set_option maxHeartbeats 1000000 in
theorem lent_any {w : World} {vx : Value} (l : List UInt8) (hx : Rd w vx (l.map byteV)) (hl : l.length ≤ 1000000000) :
    Calls Tryz.prog 73 #[vx] w fun e w' => ∃ g, e = .returned (.slice (some ⟨g, 0, none⟩) l.length (l.length + 2)) ∧ w.heap.size ≤ g ∧ w'.heap[g]? = some (.cells ((l ++ [90, 91]).map byteV).toArray 5 (0, 0)) ∧ Mods [] w w' := by
  have HX := Lib.hid hx
  obtain ⟨A, c, rfl, hc1, hc2⟩ := rd_slice hx
  clear hx
  have s1 : IntKind.i64.wrap ((l.length : Int) + 2) = (l.length : Int) + 2 := IntWalk.i64_in _ (by omega)
  obtain ⟨i0, hi, hz0, hz1, hz2⟩ := info_parts info5
  go_enter Tryz.func73, Tryz.ntmps73
  have hmk := run_make (P := Tryz.prog) w 22 5 i0 (.int .u8 0) Tryz.underlying22 hi hz0 .i64 .i64 ((l.length : Int) + 2) ((l.length : Int) + 2) (by omega) (by omega) (by rw [hz2]; omega) (by omega)
  rw [hz1, Nat.mul_one, show ((l.length : Int) + 2).toNat = l.length + 2 by omega, show (Value.int .u8 0).cells = #[.int .u8 0] from rfl, made_one] at hmk
  have HX1 := Lib.hid (HX.out.mods ((Mods.refl [] w).alloc (.cells (Array.replicate (l.length + 2) (.int .u8 0)) 5)) (by simp))
  have HB1 := Lib.hid (heap_alloc_new w (.cells (Array.replicate (l.length + 2) (.int .u8 0)) 5))
  have HM1 := Lib.hid (((Below.refl w.heap.size w)).alloc (Nat.le_refl _) (.cells (Array.replicate (l.length + 2) (.int .u8 0)) 5))
  go_upto_region 2 with fail
  clear hmk
  have HI1 : Hid ((Tryz.prog.info? 5).map (·.size) = some 1) := Lib.hid (by rw [hi]; simp [hz1])
  generalize hw1 : w.alloc (.cells (Array.replicate (l.length + 2) (.int .u8 0)) 5) = w1 at *
  generalize hg : w.heap.size = g at *
  rw [← List.toArray_replicate] at HB1
  go_wp2_with (refine wpList_copy_splice rfl (.tmp 8) (.tmp 9) 22 22 rfl 5 Tryz.underlying22 HI1.out (some ⟨g, 0, none⟩) A (l.length + 2) (l.length + 2) l.length c rfl rfl g 0 (List.replicate (l.length + 2) (.int .u8 0)) 5 HB1.out (l.map byteV) ?c1 ?c2 ?c3 ?c4 g w HM1.out (Nat.le_refl _) ?_)
  case c1 => simp
  case c2 =>
    intro h0
    have hl0 : 0 < l.length := by omega
    obtain ⟨g', off, rfl, -⟩ := rd_at HX1.out hl0
    refine ⟨_, rfl, fun j x hj => ?_⟩
    obtain ⟨A', c', e', -, -, h5⟩ := HX1.out
    obtain ⟨g2, off2, e2, hc⟩ := h5 j (byteV x) (by rw [List.getElem?_map, hj]; rfl)
    rw [← (Value.slice.inj e').1] at e2
    cases e2
    rw [Addr.add_lit]
    exact hc
  case c3 => simp
  case c4 => exact bytes_one l
  intro w2 HB2 hb2
  have hb := HB2.out
  rw [show splice (List.replicate (l.length + 2) (Value.int .u8 0)) 0 (l.map byteV) = l.map byteV ++ [.int .u8 0, .int .u8 0] by
    unfold splice
    rw [List.take_zero, List.nil_append, List.drop_replicate, List.length_map, show l.length + 2 - (0 + l.length) = 2 by omega]
    rfl] at hb
  have HM2 := Lib.hid hb2
  have HB := Lib.hid hb
  clear hw1 HX HX1 HB1 HM1 HB2 hb2 hb HI1
  have s2 : IntKind.i64.wrap ((l.length : Int) + 1) = (l.length : Int) + 1 := IntWalk.i64_in _ (by omega)
  have s4 : ((l.length : Int) + 1).toNat = l.length + 1 := by omega
  have c0 : w2.cell? ⟨g, l.length, none⟩ = some (.int .u8 0) := by rw [cell_of_row _ _ _ _ _ _ HB.out]; exact mark_at l _ 0 _ rfl
  have f0 : w2.frozen? ⟨g, l.length, none⟩ = false := frozen_of_row _ _ _ _ _ HB.out
  go_upto_region 4 with fail
  have HB5 := Lib.hid (heap_setCell_same w2 g l.length _ 5 (.int .u8 90) HB.out)
  rw [mark_set l l.length 0 (by omega) _ (.int .u8 90) [.int .u8 90, .int .u8 0] rfl] at HB5
  have HM5 := Lib.hid (HM2.out.setCell (p := ⟨g, l.length, none⟩) (Nat.le_refl g) (.int .u8 90))
  clear c0 f0 HB HM2
  generalize w2.setCell ⟨g, l.length, none⟩ (.int .u8 90) = w5 at *
  have c0 : w5.cell? ⟨g, l.length + 1, none⟩ = some (.int .u8 0) := by rw [cell_of_row _ _ _ _ _ _ HB5.out]; exact mark_at l _ 1 _ rfl
  have f0 : w5.frozen? ⟨g, l.length + 1, none⟩ = false := frozen_of_row _ _ _ _ _ HB5.out
  go_upto_region 5 with fail
  have HB6 := Lib.hid (heap_setCell_same w5 g (l.length + 1) _ 5 (.int .u8 91) HB5.out)
  rw [mark_set l (l.length + 1) 1 rfl _ (.int .u8 91) [.int .u8 90, .int .u8 91] rfl] at HB6
  have HM6 := Lib.hid (HM5.out.setCell (p := ⟨g, l.length + 1, none⟩) (Nat.le_refl g) (.int .u8 91))
  clear c0 f0 HB5 HM5
  generalize w5.setCell ⟨g, l.length + 1, none⟩ (.int .u8 91) = w6 at *
  go_wp2_with fail
  go_ret
  exact ⟨g, rfl, by omega, by simpa [byteV] using HB6.out, Mods.below (by rw [hg]; exact HM6.out) _⟩
/-- Bytes that were lent, with their marks behind them. -/
def MarkP (g : Nat) (l : List UInt8) : Pc := Pc.blk g (.cells ((l ++ [90, 91]).map byteV).toArray 5)
theorem rd_mark {w : World} {g N : Nat} {l : List UInt8} (hN : l.length = N) (h : w.heap[g]? = some (.cells ((l ++ [90, 91]).map byteV).toArray 5 (0, 0))) (hl : l.length ≤ 1000000000) : Rd w (.slice (some ⟨g, 0, none⟩) N (N + 2)) (l.map byteV) := by
  subst hN
  refine ⟨some ⟨g, 0, none⟩, l.length + 2, by rw [List.length_map], by rw [List.length_map]; omega, by unfold maxLen; omega, fun j u hu => ⟨g, 0, rfl, ?_⟩⟩
  rw [Nat.zero_add, cell_of_row _ _ _ _ _ _ h, List.getElem?_toArray, List.map_append, List.getElem?_append_left (List.getElem?_eq_some_iff.1 hu).1]
  exact hu
theorem mark2 {w : World} {g : Nat} {l : List UInt8} (h : w.heap[g]? = some (.cells ((l ++ [90, 91]).map byteV).toArray 5 (0, 0))) :
    w.cell? ⟨g, l.length, none⟩ = some (.int .u8 90) ∧ w.cell? ⟨g, l.length + 1, none⟩ = some (.int .u8 91) := by
  rw [List.map_append] at h
  refine ⟨?_, ?_⟩ <;> rw [cell_of_row _ _ _ _ _ _ h]
  · exact mark_at l _ 0 _ rfl
  · exact mark_at l _ 1 _ rfl
set_option maxRecDepth 100000 in
set_option maxHeartbeats 1000000 in
theorem left_any {w : World} {g N : Nat} {vu : Value} (l : List UInt8) (hN : l.length = N) (hg : w.heap[g]? = some (.cells ((l ++ [90, 91]).map byteV).toArray 5 (0, 0))) (hu : Rd w vu (l.map byteV)) (hl : l.length ≤ 1000000000) :
    Calls Tryz.prog 75 #[.slice (some ⟨g, 0, none⟩) N (N + 2), vu] w fun e w' => e = .returned (.bool true) ∧ w = w' := by
  subst hN
  have hcv := conv_rd (rd_mark rfl hg hl)
  have hcu := conv_rd hu
  obtain ⟨c0, c1⟩ := mark2 hg
  obtain ⟨A, c, rfl, -⟩ := rd_slice hu
  clear hg hu
  have s1 : IntKind.i64.wrap ((l.length : Int) + 2) = (l.length : Int) + 2 := IntWalk.i64_in _ (by omega)
  have s2 : IntKind.i64.wrap ((l.length : Int) + 1) = (l.length : Int) + 1 := IntWalk.i64_in _ (by omega)
  have s4 : ((l.length : Int) + 1).toNat = l.length + 1 := by omega
  have s6 : ((l.length : Int) + 2).toNat = l.length + 2 := by omega
  go_enter Tryz.func75, Tryz.ntmps75
  go_wp2_with fail
  go_ret
  exact ⟨rfl, rfl⟩
theorem lent_P {w0 w : World} {vx : Value} {F : List Nat} {K : Pc} (l : List UInt8) (h : Post K w0 F w) (hx : Rd w vx (l.map byteV)) (hl : l.length ≤ 1000000000) :
    Calls Tryz.prog 73 #[vx] w fun e w' => ∃ g, e = .returned (.slice (some ⟨g, 0, none⟩) l.length (l.length + 2)) ∧ w0.heap.size ≤ g ∧ Post ((MarkP g l).star K) w0 F w' := by
  refine (lent_any l hx hl).mono ?_
  rintro e w' ⟨g, he, hg, hb, hm⟩
  exact ⟨g, he, Nat.le_trans h.mods.size hg, h.add (q := MarkP g l) (G := [g]) hm ⟨hb, rfl⟩ (by simpa using hg)⟩
/-- An argument: a slice of bytes that was there before. -/
structure ArgB (w0 : World) (v : Value) (l : List UInt8) : Prop where
  rd : Rd w0 v (l.map byteV)
  len : l.length ≤ 100000000
theorem ArgB.old {w0 : World} {v : Value} {l : List UInt8} (h : ArgB w0 v l) (hne : l ≠ []) : ∀ k, v.ownBlock = some k → k < w0.heap.size := by
  intro k hk
  obtain ⟨x, l', rfl⟩ := List.exists_cons_of_ne_nil hne
  obtain ⟨A, c, e, -, -, h3⟩ := h.rd
  obtain ⟨g, off, rfl, hc⟩ := h3 0 (byteV x) rfl
  rw [e] at hk
  simp only [Value.ownBlock, Option.some.injEq] at hk
  subst hk
  exact World.block_lt_of_cell? _ _ hc
theorem ArgB.at {w0 w : World} {v : Value} {l : List UInt8} {p : Pc} (h : ArgB w0 v l) (hp : Post p w0 [] w) : Rd w v (l.map byteV) := h.rd.mods hp.mods (by simp)
/-- A list written over by another one, as far as that goes. -/
def ovr (l c : List UInt8) (k : Nat) : List UInt8 := c.take k ++ l.drop k
theorem ovr_len {l c : List UInt8} {k : Nat} (h1 : k ≤ l.length) (h2 : k ≤ c.length) : (ovr l c k).length = l.length := by simp [ovr]; omega
theorem ovr_next {l c : List UInt8} {k : Nat} (h1 : k < l.length) (h2 : k < c.length) : (ovr l c k).set k c[k] = ovr l c (k + 1) := by
  unfold ovr
  rw [List.drop_eq_getElem_cons h1, List.set_append, if_neg (by simp; omega), List.length_take, show k - min k c.length = 0 by omega, List.set_cons_zero]
  have e : c.take (k + 1) = c.take k ++ [c[k]] := by rw [List.take_add_one, List.getElem?_eq_getElem h2]; rfl
  rw [e, List.append_assoc]
  rfl
end Go.Proofs.YtmcekhgmmocajaaGreatDoor
namespace Go.Proofs.YtmcekhgmmocajaaGreatDoor
open Go.RowKit Me

/-- The bytes of entries, each list in a row of its own. -/
def dats : List EntP → List Value → Pc
  | e :: L, v :: V => (rowOf v e.data).star (dats L V)
  | _, _ => Pc.emp
theorem dats_at : ∀ (L : List EntP) (V : List Value) (k : Nat) (e : EntP) (v : Value), L[k]? = some e → V[k]? = some v → ∃ q, Pc.Ent (dats L V) ((rowOf v e.data).star q) ∧ Pc.Ent ((rowOf v e.data).star q) (dats L V)
  | [], _, k, e, v, h, _ => by simp at h
  | _ :: _, [], k, e, v, _, h => by simp at h
  | f :: L, u :: V, 0, e, v, h1, h2 => by
    simp at h1 h2
    subst h1
    subst h2
    exact ⟨dats L V, Pc.Ent.refl _, Pc.Ent.refl _⟩
  | f :: L, u :: V, k + 1, e, v, h1, h2 => by
    obtain ⟨q, g1, g2⟩ := dats_at L V k e v (by simpa using h1) (by simpa using h2)
    exact ⟨(rowOf u f.data).star q, ((Pc.Ent.refl _).mono g1).trans (Pc.Ent.swap _ _ _), (Pc.Ent.swap _ _ _).trans ((Pc.Ent.refl _).mono g2)⟩
theorem dats_drop {L : List EntP} {V : List Value} {k : Nat} {e : EntP} {v : Value} (h1 : L[k]? = some e) (h2 : V[k]? = some v) : dats (L.drop k) (V.drop k) = (rowOf v e.data).star (dats (L.drop (k + 1)) (V.drop (k + 1))) := by
  obtain ⟨l1, e1⟩ := List.getElem?_eq_some_iff.1 h1
  obtain ⟨l2, e2⟩ := List.getElem?_eq_some_iff.1 h2
  rw [List.drop_eq_getElem_cons l1, List.drop_eq_getElem_cons l2, e1, e2]
  rfl
/-- Entries that were made: their row, and their bytes. -/
def EntS (v : Value) (L : List EntP) (V : List Value) : Pc := (Pc.row 47 5 v L.length (flatE L V)).star (dats L V)
theorem dats_row {w w0 : World} {F : List Nat} {R : Pc} {L : List EntP} {V : List Value} (h : Post ((dats L V).star R) w0 F w) {k : Nat} {e : EntP} {v : Value} (h1 : L[k]? = some e) (h2 : V[k]? = some v) : w.ownsRow 0 5 1 v e.data.length (e.data.map byteV) := by
  obtain ⟨q, g1, -⟩ := dats_at L V k e v h1 h2
  exact h.rowAt ((Pc.Ent.left _ _).trans (g1.trans (Pc.Ent.left _ _)))
theorem row_ent {w : World} {A : Option Addr} {c n : Nat} {L : List EntP} {V : List Value} (h : w.ownsRow 0 47 5 (.slice A n c) L.length (flatE L V)) {k : Nat} {e : EntP} {v : Value} (h1 : L[k]? = some e) (h2 : V[k]? = some v) :
    ∃ g, A = some ⟨g, 0, none⟩ ∧ w.rangeAt g (k * 5) (entC e v) := by
  have hl := (List.getElem?_eq_some_iff.1 h1).1
  rcases h.2 with ⟨he, h0⟩ | ⟨g, cap, cur, he, -⟩
  · omega
  · obtain ⟨e1, e2, -⟩ := Value.slice.inj he
    subst e1
    subst e2
    have hc := h.cells (g := g) rfl
    refine ⟨g, rfl, fun j u hu => ?_⟩
    have hj : j < 5 := (List.getElem?_eq_some_iff.1 hu).1
    have := hc (k * 5 + j) u (by rw [flatE_at L V k j e v h1 h2 hj]; exact hu)
    rwa [Addr.add_lit, Nat.zero_add] at this
/-- A row of entries reads as entries. -/
theorem ents_row {w : World} {A : Option Addr} {c n : Nat} {L : List EntP} {V : List Value} (h : w.ownsRow 0 47 5 (.slice A n c) n (flatE L V)) (hn : L.length = n) (hV : V.length = L.length)
    (hd : ∀ (k : Nat) (e : EntP) (v : Value), L[k]? = some e → V[k]? = some v → Rd w v (e.data.map byteV)) : Ents w (.slice A n c) L := by
  subst hn
  have hcap : L.length ≤ c ∧ c ≤ maxLen := by
    rcases h.2 with ⟨he, h0⟩ | ⟨g, cap, cur, he, -, -, hn, hc, -⟩
    · obtain ⟨-, -, e3⟩ := Value.slice.inj he
      subst e3
      exact ⟨by omega, by unfold maxLen; omega⟩
    · obtain ⟨-, -, e3⟩ := Value.slice.inj he
      subst e3
      exact ⟨hn, hc⟩
  refine ⟨A, c, rfl, hcap.1, hcap.2, fun i e he => ?_⟩
  obtain ⟨v, hv⟩ : ∃ v, V[i]? = some v := ⟨_, List.getElem?_eq_getElem (by rw [hV]; exact (List.getElem?_eq_some_iff.1 he).1)⟩
  obtain ⟨g, hg, hr⟩ := row_ent h he hv
  exact ⟨g, 0, v, hg, by rw [Nat.zero_add]; exact hr, hd i e v he hv⟩
def RelEt (w0 : World) (F : List Nat) (b i j B : Nat) (v u : Value) (L : List EntP) (V U : List Value) (R : Pc) (ix : Value) (wr : World) : Prop :=
  ∃ k : Nat, k ≤ L.length ∧ ix = .int .i64 (k : Int) ∧ Post ((Pc.row 47 5 v L.length (flatE L V)).star ((Pc.row 47 5 u L.length (flatE L U)).star ((dats (L.drop k) (V.drop k)).star ((dats L U).star ((BkN b (i + k) j B).star R))))) w0 F wr
set_option maxRecDepth 100000 in
set_option maxHeartbeats 2000000 in
theorem entries_any {w0 w : World} {F : List Nat} {b i j B : Nat} {R : Pc} {v u : Value} {L : List EntP} {V U : List Value}
    (h : Post ((EntS v L V).star ((EntS u L U).star ((BkN b i j B).star R))) w0 F w) (hV : V.length = L.length) (hU : U.length = L.length) (hd : ∀ e ∈ L, e.data.length ≤ B) (hl : L.length ≤ B) (hB : B ≤ 1000000000) (hi : i + L.length ≤ 1000000000000) (hj : j ≤ 1000000000) :
    Calls Tryz.prog 76 #[.pointer (some ⟨b, 0, none⟩), v, u] w fun e w' => e = .returned (.bool true) ∧ Post ((BkN b (i + L.length) (j + 1) B).star R) w0 F w' := by
  have hp : Post ((Pc.row 47 5 v L.length (flatE L V)).star ((Pc.row 47 5 u L.length (flatE L U)).star ((dats L V).star ((dats L U).star ((BkN b i j B).star R))))) w0 F w :=
    h.ent ((((Pc.Ent.refl _).mono (Pc.Ent.assoc _ _ _)).trans (Pc.Ent.assoc _ _ _)).trans (Pc.perm [Pc.row 47 5 v L.length (flatE L V), dats L V, Pc.row 47 5 u L.length (flatE L U), dats L U, BkN b i j B, R] [0, 2, 1, 3, 4, 5] (n := 6) (by decide)))
  have h1 := hp.rowAt (Pc.Ent.left _ _)
  have h2 := hp.rowAt ((Pc.Ent.right _ _).trans (Pc.Ent.left _ _))
  obtain ⟨Av, cv, rfl⟩ := own_ctor h1
  obtain ⟨Au, cu, rfl⟩ := own_ctor h2
  have HS := Lib.hid (same_any L
    (ents_row h1 rfl hV fun k e x he hx => Rd.of_own (dats_row (hp.ent ((Pc.Ent.right _ _).trans (Pc.Ent.right _ _))) he hx))
    (ents_row h2 rfl hU fun k e x he hx => Rd.of_own (dats_row (hp.ent ((Pc.Ent.right _ _).trans ((Pc.Ent.right _ _).trans (Pc.Ent.right _ _)))) he hx)))
  have H0 := Lib.hid hp
  have HD := Lib.hid hd
  have HV := Lib.hid hV
  have HU := Lib.hid hU
  clear h hp h1 h2 hd hV hU
  obtain ⟨i1, hi1, hy0, hy1, hy2⟩ := info_parts info23
  go_enter Tryz.func76, Tryz.ntmps76
  go_wp2_with fail
  refine HS.out.mono ?_; rintro e w1 ⟨rfl, hm⟩
  have H1 := Lib.hid (H0.out.still hm)
  clear hm H0 HS
  go_wp2_with fail
  go_loopw [8] (fun ix wr => RelEt w0 F b i j B (.slice Av L.length cv) (.slice Au L.length cu) L V U R ix wr) (fun ix _ => L.length - (intOf ix).toNat)
  case atStart => exact ⟨0, by omega, rfl, by simpa using H1.out⟩
  case round =>
    clear H1
    obtain ⟨k, hk, rfl, hp⟩ := hrel
    rcases Nat.lt_or_ge k L.length with hlt | hge
    · obtain ⟨e, he⟩ : ∃ e, L[k]? = some e := ⟨_, List.getElem?_eq_getElem hlt⟩
      obtain ⟨x, hx⟩ : ∃ x, V[k]? = some x := ⟨_, List.getElem?_eq_getElem (by rw [HV.out]; exact hlt)⟩
      obtain ⟨y, hy⟩ : ∃ y, U[k]? = some y := ⟨_, List.getElem?_eq_getElem (by rw [HU.out]; exact hlt)⟩
      obtain ⟨g1, rfl, r1⟩ := row_ent (hp.rowAt (Pc.Ent.left _ _)) he hx
      obtain ⟨g2, rfl, r2⟩ := row_ent (hp.rowAt ((Pc.Ent.right _ _).trans (Pc.Ent.left _ _))) he hy
      have c4 := (range_ent r1).2.2.2.2
      have d4 := (range_ent r2).2.2.2.2
      have hdl := HD.out e (List.mem_of_getElem? he)
      rw [dats_drop he hx] at hp
      obtain ⟨q, g3, g4⟩ := dats_at L U k e y he hy
      have hp2 := hp.ent (((Pc.Ent.refl _).mono ((Pc.Ent.refl _).mono (((Pc.Ent.refl _).mono (((g3.mono (Pc.Ent.refl _)).trans (Pc.Ent.assoc _ _ _)))).trans (Pc.Ent.assoc _ _ _)))).trans
        (Pc.perm [Pc.row 47 5 (.slice (some ⟨g1, 0, none⟩) L.length cv) L.length (flatE L V), Pc.row 47 5 (.slice (some ⟨g2, 0, none⟩) L.length cu) L.length (flatE L U), rowOf x e.data, dats (L.drop (k + 1)) (V.drop (k + 1)), rowOf y e.data, q, BkN b (i + k) j B, R] [2, 4, 6, 0, 1, 3, 5, 7] (n := 8) (by decide)))
      have HP := Lib.hid (hp2.still (w' := wr.drew) (Mods.refl [] wr).drew)
      have HG := Lib.hid g4
      clear r1 r2 hp hp2 g3 g4 he hx hy
      obtain ⟨Ax, cx, rfl⟩ := own_ctor (HP.out.rowAt (Pc.Ent.left _ _))
      obtain ⟨Ay, cy, rfl⟩ := own_ctor (HP.out.rowAt ((Pc.Ent.right _ _).trans (Pc.Ent.left _ _)))
      go_wp2_with fail
      go_still_tail 11, (by kernel_rfl)
      change wpList _ _ _ _ _ wr.drew
      clear c4 d4
      generalize wr.drew = w2 at *
      go_wp2_with fail
      refine (BkN.keeps HP.out hdl hB (by omega)).mono ?_; rintro e' w3 ⟨rfl, hp3⟩
      have HR : Hid (RelEt w0 F b i j B (.slice (some ⟨g1, 0, none⟩) L.length cv) (.slice (some ⟨g2, 0, none⟩) L.length cu) L V U R (.int .i64 ((k : Int) + 1)) w3) := Lib.hid ⟨k + 1, by omega, rfl, hp3.ent
        ((Pc.perm [rowOf (.slice Ay e.data.length cy) e.data, BkN b (i + k + 1) j B, Pc.row 47 5 (.slice (some ⟨g1, 0, none⟩) L.length cv) L.length (flatE L V), Pc.row 47 5 (.slice (some ⟨g2, 0, none⟩) L.length cu) L.length (flatE L U), dats (L.drop (k + 1)) (V.drop (k + 1)), q, R] [2, 3, 4, 0, 5, 1, 6] (n := 7) (by decide)).trans
          ((Pc.Ent.refl _).mono ((Pc.Ent.refl _).mono ((Pc.Ent.refl _).mono ((Pc.Ent.assoc' _ _ _).trans (HG.out.mono (Pc.Ent.refl _)))))))⟩
      clear hp3 HP HG
      go_wp2_with fail
      exact ⟨HR.out, by simp only [intOf]; omega⟩
    · obtain rfl : k = L.length := by omega
      obtain ⟨I, J, D, vb, vc, ve, vd, hok, hq⟩ := BkN.open (hp.ent (Pc.perm [Pc.row 47 5 (.slice Av L.length cv) L.length (flatE L V), Pc.row 47 5 (.slice Au L.length cu) L.length (flatE L U), dats (L.drop L.length) (V.drop L.length), dats L U, BkN b (i + L.length) j B, R] [4, 5, 0, 1, 2, 3] (n := 6) (by decide)))
      have HOK := Lib.hid hok
      have H5 : Hid (Post ((BkC b vb vc ve vd).star ((Pc.row 23 1 ve J.length (J.map Rg.v)).star ((Pc.row 47 5 (.slice Av L.length cv) L.length (flatE L V)).star ((rgs 47 5 J).star ((RbI vb vc I).star ((RgJ 49 54 3 vd D).star R)))))) w0 F wr) := Lib.hid (hq.ent (((Pc.Ent.refl _).mono ((Pc.Ent.refl _).mono (((Pc.Ent.refl _).mono ((Pc.Ent.refl _).mono ((Pc.Ent.refl _).mono (Pc.Ent.left _ _)))).trans (Pc.Ent.assoc _ _ _)))).trans
        (Pc.perm [BkC b vb vc ve vd, RbI vb vc I, Pc.row 23 1 ve J.length (J.map Rg.v), rgs 47 5 J, RgJ 49 54 3 vd D, R, Pc.row 47 5 (.slice Av L.length cv) L.length (flatE L V)] [0, 2, 6, 3, 1, 4, 5] (n := 7) (by decide))))
      obtain ⟨-, -, c0, -, -, -, f0, -⟩ := bcell4 (H5.out.blkOf (Pc.Ent.left _ _))
      have hf := H5.out.rowAt ((Pc.Ent.right _ _).trans (Pc.Ent.left _ _))
      obtain ⟨Af, cf, rfl⟩ := own_ctor hf
      have HF := Lib.hid hf
      have hJl := hok.lj
      clear hp hq hf hok
      go_wp2_with (first | (at_builtin; go_must (refine wpList_app _ rfl _ _ 38 38 rfl 0 23 i1 (.slice none 0 0) 1 24 Tryz.underlying38 hi1 hy0 hy1 hy2 rfl _ _ _ rfl (HF.out.alloc _) _ 1 [.slice Av L.length cv] rfl ?c1 ?c2 ?c3 ?c4 ?_)))
      case c1 => exact src_one Tryz.underlying38 _ _ _ rfl
      case c2 => unfold maxLen; omega
      case c3 => omega
      case c4 => exact Nat.zero_le _
      intro v2 w2 hown hgrow hat
      have hp2 := ((H5.out.ent (Pc.Ent.swap _ _ _)).step (row_turn hown hgrow (by simpa using hat))).ent (Pc.Ent.swap _ _ _)
      obtain ⟨-, -, d0, -, -, -, g0, -⟩ := bcell4 (hp2.blkOf (Pc.Ent.left _ _))
      obtain ⟨A2, c2, rfl⟩ := own_ctor hown
      have hp3 := hp2.step (blk_turn (i := 2) (.slice A2 (J.length + 1) c2))
      have hp4 : Post (BkO b vb vc (.slice A2 (J.length + 1) c2) vd I (J ++ [⟨.slice Av L.length cv, L.length, flatE L V⟩]) D R) w0 F (w2.setCell ⟨b, 2, none⟩ (.slice A2 (J.length + 1) c2)) :=
        hp3.ent ((Pc.perm [_, _, _, _, _, _, _] [0, 4, 1, 2, 3, 5, 6] (n := 7) (by decide)).trans ((Pc.Ent.refl _).mono ((Pc.Ent.refl _).mono (by
          unfold RgJ
          simp only [List.length_append, List.length_cons, List.length_nil, Nat.zero_add, List.map_append, List.map_cons, List.map_nil]
          exact (((Pc.Ent.refl _).mono ((Pc.Ent.assoc' _ _ _).trans ((rgs_snoc J ⟨.slice Av L.length cv, L.length, flatE L V⟩).mono (Pc.Ent.refl _)))).trans (Pc.Ent.assoc' _ _ _))))))
      have H6 := Lib.hid (BkN.shut (i := i + L.length) (j := j + 1) (B := B) ⟨HOK.out.li, by have := HOK.out.lj; simp; omega, by have := HOK.out.ld; omega, HOK.out.bi, fun x hx => by
        rcases List.mem_append.1 hx with hx | hx
        · exact HOK.out.bj x hx
        · simp at hx
          subst hx
          exact hl, HOK.out.bd⟩ hp4)
      clear hown hgrow hat hp2 hp3 hp4 c0 f0 HF H5
      go_wp2_with fail
      go_ret
      exact ⟨rfl, H6.out⟩
end Go.Proofs.YtmcekhgmmocajaaGreatDoor
namespace Go.Proofs.YtmcekhgmmocajaaGreatDoor
open Go.RowKit Me Go.BigFrame

theorem Me.row_setc {e : TypeId} {size g n c i : Nat} {xs : List Value} {w : World} (x : Value) : ∀ F1, (Pc.row e size (.slice (some ⟨g, 0, none⟩) n c) n xs).A w F1 → Post (Pc.row e size (.slice (some ⟨g, 0, none⟩) n c) n (xs.set i x)) w F1 (w.setCell ⟨g, i, none⟩ x) := by
  rintro F1 ⟨⟨h1, hh⟩, rfl⟩
  rcases hh with ⟨he, _⟩ | ⟨g2, cap, cur, he, hb, hg, hn, hc, hs, ht⟩
  · cases he
  · simp only [Value.slice.injEq, Option.some.injEq, Addr.mk.injEq, true_and, and_true] at he
    obtain ⟨rfl, rfl⟩ := he
    refine ⟨[g], ⟨⟨by simpa using h1, .inr ⟨g, c, _, rfl, hb, heap_setCell_same _ _ _ _ _ _ hg, hn, hc, by simpa using hs, ?_⟩⟩, rfl⟩, (Mods.refl _ _).setCell (p := ⟨g, i, none⟩) (Or.inl (by simp [Value.ownBlock])) x, fun _ hk => Or.inl (by simpa [Value.ownBlock] using hk)⟩
    rw [← ht, Array.toList_setIfInBounds, List.take_set]
/-- The owner's entry, behind the list. -/
def ownX : EntP := ⟨⟨#[116, 104, 101, 32, 111, 119, 110, 101, 114, 39, 115]⟩, 0, 0, ⟨#[]⟩, []⟩
def ownE : List Value := entC ownX (.slice none 0 0)
def markV (e : EntP) (g : Nat) : Value := .slice (some ⟨g, 0, none⟩) e.data.length (e.data.length + 2)
def marksV : List EntP → List Nat → List Value
  | e :: L, g :: G => markV e g :: marksV L G
  | _, _ => []
theorem marksV_len : ∀ (L : List EntP) (G : List Nat), G.length = L.length → (marksV L G).length = L.length
  | [], G, h => by cases G <;> rfl
  | e :: L, [], h => by simp at h
  | e :: L, g :: G, h => by
    show (marksV L G).length + 1 = L.length + 1
    rw [marksV_len L G (by simpa using h)]
theorem marksV_snoc : ∀ (L : List EntP) (G : List Nat) (e : EntP) (g : Nat), G.length = L.length → marksV (L ++ [e]) (G ++ [g]) = marksV L G ++ [markV e g]
  | [], [], e, g, h => rfl
  | [], g' :: G, e, g, h => by simp at h
  | f :: L, [], e, g, h => by simp at h
  | f :: L, g' :: G, e, g, h => by
    show markV f g' :: marksV (L ++ [e]) (G ++ [g]) = _
    rw [marksV_snoc L G e g (by simpa using h)]
    rfl
theorem marksV_at : ∀ (L : List EntP) (G : List Nat) (k : Nat) (e : EntP) (g : Nat), L[k]? = some e → G[k]? = some g → (marksV L G)[k]? = some (markV e g)
  | [], _, k, e, v, h, _ => by simp at h
  | _ :: _, [], k, e, v, _, h => by simp at h
  | f :: L, u :: V, 0, e, v, h1, h2 => by
    simp at h1 h2
    subst h1
    subst h2
    rfl
  | f :: L, u :: V, k + 1, e, v, h1, h2 => by
    show (marksV L V)[k]? = _
    exact marksV_at L V k e v (by simpa using h1) (by simpa using h2)
def marks : List EntP → List Nat → Pc
  | e :: L, g :: G => (MarkP g e.data).star (marks L G)
  | _, _ => Pc.emp
theorem marks_snoc : ∀ (L : List EntP) (G : List Nat) (e : EntP) (g : Nat), G.length = L.length → Pc.Ent ((MarkP g e.data).star (marks L G)) (marks (L ++ [e]) (G ++ [g]))
  | [], [], e, g, h => Pc.Ent.refl _
  | [], g' :: G, e, g, h => by simp at h
  | f :: L, [], e, g, h => by simp at h
  | f :: L, g' :: G, e, g, h => (Pc.Ent.swap _ _ _).trans ((Pc.Ent.refl _).mono (marks_snoc L G e g (by simpa using h)))
theorem marks_at : ∀ (L : List EntP) (G : List Nat) (k : Nat) (e : EntP) (g : Nat), L[k]? = some e → G[k]? = some g → ∃ q, Pc.Ent (marks L G) ((MarkP g e.data).star q) ∧ ∀ e' g', Pc.Ent ((MarkP g' e'.data).star q) (marks (L.set k e') (G.set k g'))
  | [], _, k, e, v, h, _ => by simp at h
  | _ :: _, [], k, e, v, _, h => by simp at h
  | f :: L, u :: V, 0, e, v, h1, h2 => by
    simp at h1 h2
    subst h1
    subst h2
    exact ⟨marks L V, Pc.Ent.refl _, fun _ _ => Pc.Ent.refl _⟩
  | f :: L, u :: V, k + 1, e, v, h1, h2 => by
    obtain ⟨q, g1, g2⟩ := marks_at L V k e v (by simpa using h1) (by simpa using h2)
    exact ⟨(MarkP u f.data).star q, ((Pc.Ent.refl _).mono g1).trans (Pc.Ent.swap _ _ _), fun e' g' => (Pc.Ent.swap _ _ _).trans ((Pc.Ent.refl _).mono (g2 e' g'))⟩
/-- Entries that were lent: a list with the owner's entry behind it, each one's bytes with marks. -/
def LentE (g c N : Nat) (L : List EntP) (G : List Nat) : Pc := (Pc.row 47 5 (.slice (some ⟨g, 0, none⟩) (N + 1) c) (N + 1) (flatE L (marksV L G) ++ ownE)).star (marks L G)
def RelLe (w : World) (L : List EntP) (v i : Value) (wr : World) : Prop :=
  ∃ (k : Nat) (G : List Nat), k ≤ L.length ∧ i = .int .i64 (k : Int) ∧ G.length = k ∧ Post ((Pc.row 47 5 v k (flatE (L.take k) (marksV (L.take k) G))).star (marks (L.take k) G)) w [] wr
set_option maxRecDepth 100000 in
set_option maxHeartbeats 2000000 in
theorem lentEntries_any {w : World} (L : List EntP) {v : Value} (h : Ents w v L) (hz : ∀ e ∈ L, e.data.length ≤ 100000000) (hlen : L.length ≤ 100000000) :
    Calls Tryz.prog 70 #[v] w fun x w' => ∃ g c G, x = .returned (.slice (some ⟨g, 0, none⟩) L.length c) ∧ G.length = L.length ∧ L.length + 1 ≤ c ∧ c ≤ maxLen ∧ Post (LentE g c L.length L G) w [] w' := by
  have H := Lib.hid h
  have HZ := Lib.hid hz
  obtain ⟨A, c, rfl, -⟩ := h
  obtain ⟨i0, hi, hz0, hz1, hz2⟩ := info_parts info38z
  clear hz
  have HST : Hid (Post ((Pc.row 47 5 (.slice none 0 0) 0 []).star Pc.emp) w [] w) := Lib.hid ⟨[], ⟨[], [], ⟨World.ownsRow_nil _ _ _ _, rfl⟩, rfl, by simp, rfl⟩, Mods.refl _ _, by simp⟩
  go_enter Tryz.func70, Tryz.ntmps70
  go_wp2_with fail
  go_loopw [3, 4, 5] (fun v i _ wr => RelLe w L v i wr) (fun _ i _ _ => L.length - (intOf i).toNat)
  case atStart => exact ⟨0, [], by omega, rfl, rfl, HST.out⟩
  case round =>
    obtain ⟨k, G, hk, rfl, hG, hp⟩ := hrel
    have hm := hp.mods
    have hrow := hp.rowAt (Pc.Ent.left _ _)
    obtain ⟨Au, cu, rfl⟩ := own_ctor hrow
    have HG := Lib.hid hG
    rcases Nat.lt_or_ge k L.length with hlt | hge
    · obtain ⟨e, hs⟩ : ∃ e, L[k]? = some e := ⟨_, List.getElem?_eq_getElem hlt⟩
      obtain ⟨g0, off, vd, rfl, hrg0, hrd0⟩ := H.out.at hs
      have hd := HZ.out e (List.mem_of_getElem? hs)
      have hrg1 := range_mods hrg0 hm (by simp)
      have HRG := Lib.hid hrg1
      have HTK : Hid (L.take (k + 1) = L.take k ++ [e]) := Lib.hid (by rw [List.take_add_one, hs]; rfl)
      have HLN : Hid ((L.take k).length = k) := Lib.hid (by rw [List.length_take]; omega)
      obtain ⟨vA, vc, rfl, -⟩ := id hrd0
      rw [List.length_map] at *
      simp only [entC] at HRG
      have H1 := Lib.hid (hp.alloc (.cells #[.string e.path, .int .u32 (e.mode : Int), .int .u32 (e.mtime : Int), .string e.gid, .slice vA e.data.length vc] 47))
      have c4 : (wr.alloc (.cells #[.string e.path, .int .u32 (e.mode : Int), .int .u32 (e.mtime : Int), .string e.gid, .slice vA e.data.length vc] 47)).cell? ⟨g0, off + k * 5 + 4, none⟩ = some (.slice vA e.data.length vc) :=
        (range_ent (range_mods hrg1 ((Mods.refl [] wr).alloc _) (by simp))).2.2.2.2
      have HL := Lib.hid (lent_P e.data H1.out (hrd0.mods (hm.alloc _) (by simp)) (by omega))
      clear hrg0 hrg1 hrd0 hs hm hrow hp hG
      go_wp2_with (refine wpList_load_mid rfl 47 _ rfl g0 (off + k * 5) rfl [.string e.path, .int .u32 (e.mode : Int), .int .u32 (e.mtime : Int), .string e.gid, .slice vA e.data.length vc] _ HRG.out Tryz.underlying47 rfl info38t ?_)
      clear c4
      refine HL.out.mono ?_; rintro x w2 ⟨g, rfl, hg, hp2⟩
      generalize (wr.alloc (.cells #[.string e.path, .int .u32 (e.mode : Int), .int .u32 (e.mtime : Int), .string e.gid, .slice vA e.data.length vc] 47)) = w1 at *
      generalize hbe : wr.heap.size = b at *
      have hX2 := hp2.blkOf ((Pc.Ent.right _ _).trans (Pc.Ent.left _ _))
      have f4 : w2.frozen? ⟨b, 4, none⟩ = false := frozen_of_row _ _ _ _ _ hX2
      have d4 : w2.cell? ⟨b, 4, none⟩ = some (.slice vA e.data.length vc) := by rw [cell_of_row _ _ _ _ _ _ hX2]; rfl
      have hp3 := (hp2.ent (Pc.Ent.swap _ _ _)).step (blk_turn (i := 4) (.slice (some ⟨g, 0, none⟩) e.data.length (e.data.length + 2)))
      have H3 : Hid (Post ((Pc.blk b (.cells #[.string e.path, .int .u32 (e.mode : Int), .int .u32 (e.mtime : Int), .string e.gid, .slice (some ⟨g, 0, none⟩) e.data.length (e.data.length + 2)] 47)).star ((MarkP g e.data).star ((Pc.row 47 5 (.slice Au k cu) k (flatE (L.take k) (marksV (L.take k) G))).star (marks (L.take k) G)))) w [] (w2.setCell ⟨b, 4, none⟩ (.slice (some ⟨g, 0, none⟩) e.data.length (e.data.length + 2)))) := Lib.hid hp3
      clear hp2 hp3 hX2 HL H1 hbe
      go_upto_region 7 with fail
      clear f4 d4
      generalize w2.setCell ⟨b, 4, none⟩ (.slice (some ⟨g, 0, none⟩) e.data.length (e.data.length + 2)) = w3 at *
      have HX3 := Lib.hid (H3.out.blkOf (Pc.Ent.left _ _))
      have HROW := Lib.hid (H3.out.rowAt ((Pc.Ent.right _ _).trans ((Pc.Ent.right _ _).trans (Pc.Ent.left _ _))))
      go_wp2_with (first
            | (refine wpList_load_row rfl 47 _ rfl b rfl 47 #[.string e.path, .int .u32 (e.mode : Int), .int .u32 (e.mtime : Int), .string e.gid, .slice (some ⟨g, 0, none⟩) e.data.length (e.data.length + 2)] (0, 0) _ HX3.out Tryz.underlying47 rfl info38 ?_)
            | (at_builtin; go_must (refine wpList_app _ rfl _ _ 23 23 rfl 0 47 i0 (.agg #[.string ⟨#[]⟩, .int .u32 0, .int .u32 0, .string ⟨#[]⟩, .slice none 0 0]) 5 64 Tryz.underlying23 hi hz0 hz1 hz2 rfl _ _ _ rfl (HROW.out.alloc _) _ 1 (entC e (.slice (some ⟨g, 0, none⟩) e.data.length (e.data.length + 2))) rfl ?c1 ?c2 ?c3 ?c4 ?_)))
      case c1 => exact src_ent w3 e (.slice (some ⟨g, 0, none⟩) e.data.length (e.data.length + 2)) rfl
      case c2 => unfold maxLen; omega
      case c3 => omega
      case c4 => exact Nat.zero_le _
      intro v' w4 hown hgrow hat
      have hp4 := ((H3.out.ent (Pc.Ent.at3 _ _ _ _)).step (row_turn hown hgrow (by simpa using hat))).ent ((Pc.Ent.refl _).mono ((Pc.Ent.right _ _).trans (marks_snoc (L.take k) G e g (by rw [HG.out, HLN.out]))))
      have e1 : flatE (L.take (k + 1)) (marksV (L.take (k + 1)) (G ++ [g])) = flatE (L.take k) (marksV (L.take k) G) ++ entC e (.slice (some ⟨g, 0, none⟩) e.data.length (e.data.length + 2)) := by
        rw [HTK.out, marksV_snoc _ _ _ _ (by rw [HG.out, HLN.out]), flatE_snoc _ _ (marksV_len _ _ (by rw [HG.out, HLN.out]))]
        rfl
      have HR : Hid (RelLe w L v' (.int .i64 ((k : Int) + 1)) w4) := Lib.hid ⟨k + 1, G ++ [g], by omega, rfl, by simp [HG.out], by rw [e1, HTK.out]; exact hp4⟩
      obtain ⟨A9, c9, rfl⟩ := own_ctor hown
      clear hown hgrow hat hp4 e1 H3
      go_wp2_with fail
      exact ⟨HR.out, by simp only [intOf]; omega⟩
    · obtain rfl : k = L.length := by omega
      rw [List.take_length] at hp
      have H3 := Lib.hid hp
      have HROW := Lib.hid hrow
      clear hp hrow hm hG
      have hcs : Hid (Src Tryz.prog 5 23 (.slice (some ⟨wr.heap.size, 0, none⟩) 1 1) 1 ownE (wr.alloc (.cells #[.string ⟨#[116, 104, 101, 32, 111, 119, 110, 101, 114, 39, 115]⟩, .int .u32 0, .int .u32 0, .string ⟨#[]⟩, .slice none 0 0] 47))) := Lib.hid (src_ent wr ownX (.slice none 0 0) rfl)
      have HROW' := Lib.hid (H3.out.rowAt (Pc.Ent.left _ _))
      go_wp2_with (first
            | (at_builtin; go_must (refine wpList_app _ rfl _ _ 23 23 rfl 0 47 i0 (.agg #[.string ⟨#[]⟩, .int .u32 0, .int .u32 0, .string ⟨#[]⟩, .slice none 0 0]) 5 64 Tryz.underlying23 hi hz0 hz1 hz2 rfl _ _ _ rfl (HROW'.out.alloc _) _ 1 ownE rfl ?c1 ?c2 ?c3 ?c4 ?_)))
      case c1 => exact hcs.out
      case c2 => unfold maxLen; omega
      case c3 => omega
      case c4 => exact Nat.zero_le _
      intro v' w4 hown hgrow hat
      have hp4 := H3.out.step (row_turn hown hgrow (by simpa using hat))
      have H4 := Lib.hid hp4
      rcases ownsRow_form hown with ⟨-, h0, -⟩ | ⟨g, c9, rfl, hc1, hc2, -, -⟩
      · omega
      clear hown hgrow hat hp4 H3 HROW HROW' hcs
      go_wp2_with fail
      go_ret
      exact ⟨g, c9, G, rfl, HG.out, hc1, hc2, H4.out⟩
theorem ent_take {w : World} {g c N : Nat} {L : List EntP} {V : List Value} {X : List Value} (h : w.ownsRow 0 47 5 (.slice (some ⟨g, 0, none⟩) (N + 1) c) (N + 1) (flatE L V ++ X))
    {k : Nat} {e : EntP} {v : Value} (h1 : L[k]? = some e) (h2 : V[k]? = some v) : w.rangeAt g (k * 5) (entC e v) := by
  have hc := h.cells (g := g) rfl
  intro j u hu
  have hj : j < 5 := (List.getElem?_eq_some_iff.1 hu).1
  have hf := flatE_at L V k j e v h1 h2 hj
  have := hc (k * 5 + j) u (by rw [List.getElem?_append_left (List.getElem?_eq_some_iff.1 (hf.trans hu)).1, hf]; exact hu)
  rwa [Addr.add_lit, Nat.zero_add] at this
theorem ent_behind {w : World} {g c N : Nat} {L : List EntP} {V : List Value} (h : w.ownsRow 0 47 5 (.slice (some ⟨g, 0, none⟩) (N + 1) c) (N + 1) (flatE L V ++ ownE)) : w.cell? ⟨g, N * 5, none⟩ = some (.string ownX.path) := by
  have hc := h.cells (g := g) rfl
  have hl : (flatE L V).length = N * 5 := by
    have := h.1
    rw [List.length_append, show ownE.length = 5 from rfl] at this
    omega
  have := hc (N * 5) (.string ownX.path) (by rw [List.getElem?_append_right (by omega), hl, Nat.sub_self]; rfl)
  rwa [Addr.add_lit, Nat.zero_add] at this
section
variable {w0 w : World} {F : List Nat} {K : Pc} {g c N : Nat} {L : List EntP} {G : List Nat}
theorem LentE.mark (h : Post ((LentE g c N L G).star K) w0 F w) {k : Nat} {e : EntP} {x : Nat} (h1 : L[k]? = some e) (h2 : G[k]? = some x) : w.heap[x]? = some (.cells ((e.data ++ [90, 91]).map byteV).toArray 5 (0, 0)) := by
  obtain ⟨q, g1, -⟩ := marks_at L G k e x h1 h2
  exact h.blkOf ((Pc.Ent.left _ _).trans ((Pc.Ent.right _ _).trans (g1.trans (Pc.Ent.left _ _))))
/-- What was lent reads as entries. -/
theorem LentE.ents (h : Post ((LentE g c N L G).star K) w0 F w) (hN : L.length = N) (hG : G.length = N) (hc : N + 1 ≤ c) (hc2 : c ≤ maxLen) (hz : ∀ e ∈ L, e.data.length ≤ 1000000000) : Ents w (.slice (some ⟨g, 0, none⟩) N c) L := by
  subst hN
  refine ⟨some ⟨g, 0, none⟩, c, rfl, by omega, hc2, fun i e he => ?_⟩
  obtain ⟨x, hx⟩ : ∃ x, G[i]? = some x := ⟨_, List.getElem?_eq_getElem (by rw [hG]; exact (List.getElem?_eq_some_iff.1 he).1)⟩
  refine ⟨g, 0, markV e x, rfl, by rw [Nat.zero_add]; exact ent_take (h.rowAt ((Pc.Ent.left _ _).trans (Pc.Ent.left _ _))) he (marksV_at L G i e x he hx), ?_⟩
  exact rd_mark rfl (LentE.mark h he hx) (hz e (List.mem_of_getElem? he))
end
set_option maxRecDepth 100000 in
set_option maxHeartbeats 2000000 in
theorem wholeEntries_any {w w0 : World} {F : List Nat} {K : Pc} {g c N : Nat} {L : List EntP} {G : List Nat} {v : Value} (h : Post ((LentE g c N L G).star K) w0 F w) (hN : L.length = N) (hG : G.length = N) (hc : N + 1 ≤ c) (hc2 : c ≤ maxLen)
    (hz : ∀ e ∈ L, e.data.length ≤ 1000000000) (hw : Ents w v L) :
    Calls Tryz.prog 71 #[.slice (some ⟨g, 0, none⟩) N c, v] w fun x w' => x = .returned (.bool true) ∧ Mods [] w w' := by
  have HS := Lib.hid (same_any L (LentE.ents h hN hG hc hc2 hz) hw)
  have H := Lib.hid h
  have HW := Lib.hid hw
  have HZ := Lib.hid hz
  have HN := Lib.hid hN
  have HG := Lib.hid hG
  have hc3 : c ≤ 9223372036854775807 := by unfold maxLen at hc2; omega
  obtain ⟨B, d, rfl, -⟩ := hw
  rw [hN] at HS HW ⊢
  clear h hz hG hN
  go_enter Tryz.func71, Tryz.ntmps71
  go_wp2_with fail
  refine HS.out.mono ?_; rintro x w1 ⟨rfl, hm⟩
  have hp1 := H.out.still hm
  have H1 := Lib.hid hp1
  have c0 := ent_behind (hp1.rowAt ((Pc.Ent.left _ _).trans (Pc.Ent.left _ _)))
  unfold ownX at c0
  have HM := Lib.hid hm
  clear hm hp1 H
  go_wp2_with fail
  clear c0
  go_loopw [6, 7] (fun i _ wr => (∃ k : Nat, k ≤ N ∧ i = .int .i64 (k : Int)) ∧ Mods [] w1 wr) (fun i _ _ => N - (intOf i).toNat)
  case atStart => exact ⟨⟨0, by omega, rfl⟩, Mods.refl _ _⟩
  case round =>
    obtain ⟨⟨k, hk, rfl⟩, hm⟩ := hrel
    have HMr := Lib.hid hm
    rcases Nat.lt_or_ge k N with hlt | hge
    · obtain ⟨e, he⟩ : ∃ e, L[k]? = some e := ⟨_, List.getElem?_eq_getElem (by rw [HN.out]; exact hlt)⟩
      obtain ⟨y, hy⟩ : ∃ y, G[k]? = some y := ⟨_, List.getElem?_eq_getElem (by rw [HG.out]; exact hlt)⟩
      have hpr := H1.out.still hm
      have hr1 := ent_take (hpr.rowAt ((Pc.Ent.left _ _).trans (Pc.Ent.left _ _))) he (marksV_at L G k e y he hy)
      have c4 := (range_ent hr1).2.2.2.2
      have hmk := LentE.mark hpr he hy
      obtain ⟨g2, off, vd, rfl, hrg, hrd⟩ := (HW.out.mods (HM.out.trans hm (by simp))).at he
      have d4 := (range_ent hrg).2.2.2.2
      have hd := HZ.out e (List.mem_of_getElem? he)
      have HL := Lib.hid (fun n => (left_any e.data rfl ((Mods.refl [] wr).drewN n |>.heap hmk (by simp)) (hrd.mods ((Mods.refl [] wr).drewN n) (by simp)) hd).mono (fun x w' (hh : x = .returned (.bool true) ∧ wr.drewN n = w') => (⟨hh.1, n, hh.2.symm⟩ : x = .returned (.bool true) ∧ ∃ m, w' = wr.drewN m)))
      unfold markV at c4
      obtain ⟨A4, b4, rfl, -⟩ := rd_slice hrd
      clear hpr hr1 hmk hrg hrd hm he hy
      go_wp2_with fail
      go_quiet (exact HL.out _)
      have HR := Lib.hid (HMr.out.drewN nq)
      clear c4 d4
      go_wp2_with fail
      exact ⟨⟨⟨k + 1, by omega, rfl⟩, HR.out⟩, by simp only [intOf]; omega⟩
    · obtain rfl : k = N := by omega
      clear hm
      go_wp2_with fail
      go_ret
      exact ⟨rfl, HM.out.trans HMr.out (by simp)⟩
end Go.Proofs.YtmcekhgmmocajaaGreatDoor
namespace Go.Proofs.YtmcekhgmmocajaaGreatDoor
open Go.RowKit Me Go.BigFrame

theorem spl_skip (a b vs : List Value) (n : Nat) : spl (a ++ b) (a.length + n) vs = a ++ spl b n vs := by
  unfold spl
  rw [List.take_append, List.drop_append, List.take_of_length_le (by omega), List.drop_of_length_le (by omega : a.length ≤ a.length + n + vs.length), show a.length + n - a.length = n by omega, show a.length + n + vs.length - a.length = n + vs.length by omega]
  simp
theorem flatE_cons (f : EntP) (L : List EntP) (u : Value) (V : List Value) : flatE (f :: L) (u :: V) = entC f u ++ flatE L V := rfl
theorem flatE_spl : ∀ (L : List EntP) (V : List Value) (k : Nat) (e : EntP) (x : Value) (X : List Value), k < L.length → V.length = L.length → spl (flatE L V ++ X) (k * 5) (entC e x) = flatE (L.set k e) (V.set k x) ++ X
  | [], _, k, e, x, X, h, _ => by simp at h
  | f :: L, [], k, e, x, X, _, h => by simp at h
  | f :: L, u :: V, 0, e, x, X, _, h => by
    rw [flatE_cons, List.set_cons_zero, List.set_cons_zero, flatE_cons]
    unfold spl
    have h5 : (entC f u).length = 5 := rfl
    rw [Nat.zero_mul, List.take_zero, List.nil_append, Nat.zero_add, List.append_assoc, List.drop_left' (by rw [h5]; rfl), List.append_assoc]
  | f :: L, u :: V, k + 1, e, x, X, h1, h2 => by
    rw [flatE_cons, List.set_cons_succ, List.set_cons_succ, flatE_cons, List.append_assoc, show (k + 1) * 5 = (entC f u).length + k * 5 by rw [show (entC f u).length = 5 from rfl]; omega, spl_skip, List.append_assoc,
      flatE_spl L V k e x X (by simpa using h1) (by simpa using h2)]
theorem flatE_set4 : ∀ (L : List EntP) (V : List Value) (k : Nat) (x : Value) (X : List Value), k < L.length → V.length = L.length → (flatE L V ++ X).set (k * 5 + 4) x = flatE L (V.set k x) ++ X
  | [], _, k, x, X, h, _ => by simp at h
  | f :: L, [], k, x, X, _, h => by simp at h
  | f :: L, u :: V, 0, x, X, _, h => by
    rw [List.set_cons_zero, flatE_cons, flatE_cons]
    rfl
  | f :: L, u :: V, k + 1, x, X, h1, h2 => by
    have h5 : (entC f u).length = 5 := rfl
    rw [List.set_cons_succ, flatE_cons, flatE_cons, List.append_assoc, List.set_append, if_neg (by omega), show (k + 1) * 5 + 4 - (entC f u).length = k * 5 + 4 by omega, flatE_set4 L V k x X (by simpa using h1) (by simpa using h2), List.append_assoc]
theorem marksV_set : ∀ (L : List EntP) (G : List Nat) (k : Nat) (e : EntP) (g : Nat), (marksV L G).set k (markV e g) = marksV (L.set k e) (G.set k g)
  | [], G, k, e, g => by cases G <;> rfl
  | f :: L, [], k, e, g => by cases k <;> rfl
  | f :: L, u :: G, 0, e, g => rfl
  | f :: L, u :: G, k + 1, e, g => by
    show markV f u :: (marksV L G).set k (markV e g) = _
    rw [marksV_set L G k e g]
    rfl
/-- Entries that were handed in. -/
structure ArgE (w : World) (v : Value) (L : List EntP) : Prop where
  rd : Ents w v L
  sm : ∀ e ∈ L, Small e
  len : L.length ≤ 100000000
theorem ArgE.mods {w w' : World} {v : Value} {L : List EntP} (h : ArgE w v L) (hm : Mods [] w w') : ArgE w' v L := ⟨h.rd.mods hm, h.sm, h.len⟩
theorem encP_len (L : List EntP) : (encP L).1.length ≤ 16777216 := by
  unfold encP
  split
  · simp
  · split
    · simp
    · split
      · simp
      · rw [fullD_length]
        omega
theorem row_cellS {w : World} {e : TypeId} {size g n c i : Nat} {xs : List Value} {x : Value} (h : w.ownsRow 0 e size (.slice (some ⟨g, 0, none⟩) n c) n xs) (hx : xs[i]? = some x) : w.cell? ⟨g, i, none⟩ = some x ∧ w.frozen? ⟨g, i, none⟩ = false := by
  have hc := h.cells (g := g) rfl i x hx
  rw [Addr.add_lit, Nat.zero_add] at hc
  refine ⟨hc, ?_⟩
  rcases h.2 with ⟨he, _⟩ | ⟨g2, cap, cur, he, hb, hg, hn, _⟩
  · cases he
  · simp only [Value.slice.injEq, Option.some.injEq, Addr.mk.injEq, true_and, and_true] at he
    obtain ⟨rfl, rfl⟩ := he
    exact frozen_of_row _ _ _ _ _ hg
def RelKe (w0 : World) (b i j B : Nat) (R : Pc) (g c N : Nat) (ix : Value) (wr : World) : Prop :=
  ∃ (r : Nat) (L : List EntP) (G : List Nat), r ≤ 2 ∧ ix = .int .i64 (r : Int) ∧ L.length = N ∧ G.length = N ∧ (∀ e ∈ L, Small e) ∧ Post ((LentE g c N L G).star ((BkN b (i + r) j B).star R)) w0 [] wr
def RelKf (w0 : World) (b i j B : Nat) (R : Pc) (g c N : Nat) (ix : Value) (wr : World) : Prop :=
  ∃ (q : Nat) (L : List EntP) (G : List Nat), q ≤ N ∧ ix = .int .i64 (q : Int) ∧ L.length = N ∧ G.length = N ∧ (∀ e ∈ L, Small e) ∧ Post ((LentE g c N L G).star ((BkN b i j B).star R)) w0 [] wr
set_option maxRecDepth 100000 in
set_option maxHeartbeats 4000000 in
theorem kencode_any {w0 w : World} {b i j B : Nat} {R : Pc} {vl vm : Value} {L M : List EntP} (h : Post ((BkN b i j B).star R) w0 [] w) (hB : 16777216 ≤ B) (hB2 : B ≤ 1000000000) (hi : i ≤ 900000000000) (hT : Tabs w0) (hL : ArgE w vl L) (hM : ArgE w0 vm M) :
    Calls Tryz.prog 37 #[.pointer (some ⟨b, 0, none⟩), vl, vm] w fun e w' => e = .returned (.bool true) ∧ Post ((BkN b (i + 2) j B).star R) w0 [] w' := by
  have H0 := Lib.hid h
  have HT := Lib.hid hT
  have HM := Lib.hid hM
  have HSL := Lib.hid hL.sm
  have hLl := hL.len
  have HLE := Lib.hid (lentEntries_any L hL.rd (fun e he => (hL.sm e he).data) hL.len)
  obtain ⟨A, cl, rfl, -⟩ := hL.rd
  obtain ⟨Am, cm, rfl, hm1, hm2, -⟩ := hM.rd
  have hMl := hM.len
  clear h hT hL hM
  go_enter Tryz.func37, Tryz.ntmps37
  go_wp2_with fail
  refine HLE.out.mono ?_; rintro e w1 ⟨g, c, G, rfl, hG, hc1, hc2, hp⟩
  have H1 := Lib.hid (H0.out.addP hp)
  have HG := Lib.hid hG
  have HLN : Hid (L.length = L.length) := Lib.hid rfl
  clear hp hG H0 HLE
  generalize hN : L.length = N at *
  have HN := Lib.hid hN
  have hc3 : c ≤ 9223372036854775807 := by unfold maxLen at hc2; omega
  clear hN HLN
  go_wp2_with fail
  go_loopw [8] (fun ix wr => RelKe w0 b i j B R g c N ix wr) (fun ix _ => 2 - (intOf ix).toNat)
  case atStart => exact ⟨0, L, G, by omega, rfl, HN.out, HG.out, HSL.out, H1.out⟩
  case round =>
    clear H1 HSL HN HG
    obtain ⟨r, L', G', hr, rfl, hl', hg', hs', hp⟩ := hrel
    have HP := Lib.hid hp
    have HL' := Lib.hid hl'
    have HG' := Lib.hid hg'
    have HS' := Lib.hid hs'
    rcases Nat.lt_or_ge r 2 with hlt | hge
    · have hents := LentE.ents hp hl' hg' hc1 hc2 (fun e he => Nat.le_trans (hs' e he).data (by omega))
      have HE := Lib.hid hents
      have HC := Lib.hid (copied_any L' hents (fun e he => (hs' e he).data) (by omega))
      have HEN := Lib.hid (fun W (hm : Mods [] wr W) => encode_any (w := W) L' (hents.mods hm) hs' (by omega) (hT := HT.out.mods (hp.mods.trans hm (by simp))))
      have HRE := Lib.hid (fun W v (hv : Ents W v L') => rencode_any (w := W) L' hv hs' (by omega))
      simp only [encPR_eq] at HRE
      have hel := encP_len L'
      generalize encP L' = D at HEN HRE hel
      obtain ⟨eb, ee⟩ := D
      simp only at HEN HRE hel
      clear hp hl' hg' hs' hents
      go_wp2_with fail
      refine HC.out.mono ?_; rintro e w2 ⟨v2, rfl, ho2, hmm2⟩
      have HO2 := Lib.hid ho2.ents
      have HM2 := Lib.hid hmm2
      obtain ⟨A2, c2, rfl, -⟩ := ho2.ents
      clear ho2 hmm2 HC
      have hl9 := HL'.out
      rw [hl9] at HO2 ⊢
      clear hl9
      go_wp2_with fail
      refine (HEN.out w2 HM2.out).mono ?_; rintro e w3 ⟨v3, rfl, ho3, hm3⟩
      have H3 := Lib.hid ((HP.out.still HM2.out).addRow hm3 ho3)
      have HO3 := Lib.hid (HO2.out.mods hm3)
      have HM3 := Lib.hid (HM2.out.trans hm3 (by simp))
      obtain ⟨A3, c3, rfl⟩ := own_ctor ho3
      clear ho3 hm3 HO2
      go_wp2_with fail
      refine (HRE.out w3 _ HO3.out).mono ?_; rintro e w4 ⟨v4, rfl, ho4, hm4⟩
      have H4 := Lib.hid (H3.out.addRow hm4 ho4)
      have HO4 := Lib.hid (HO3.out.mods hm4)
      obtain ⟨A4, c4, rfl⟩ := own_ctor ho4
      clear ho4 hm4 HO3 H3 HM3
      have HWH := Lib.hid (wholeEntries_any (H4.out.ent ((Pc.Ent.right _ _).trans (Pc.Ent.right _ _))) HL'.out HG'.out hc1 hc2 (fun e he => Nat.le_trans (HS'.out e he).data (by omega)) HO4.out)
      go_wp2_with fail
      refine HWH.out.mono ?_; rintro e w5 ⟨rfl, hm5⟩
      have H5 := Lib.hid ((H4.out.still hm5).ent (Pc.perm [rowOf (.slice A4 eb.length c4) eb, rowOf (.slice A3 eb.length c3) eb, LentE g c N L' G', BkN b (i + r) j B, R] [1, 0, 3, 2, 4] (n := 5) (by decide)))
      clear hm5 H4 HO4 HWH
      go_wp2_with fail
      refine (BkN.keeps H5.out (by omega) hB2 (by omega)).mono ?_; rintro e w6 ⟨rfl, hp6⟩
      have H6 : Hid (Post ((LentE g c N L' G').star ((BkN b (i + r + 1) j B).star R)) w0 [] w6) := Lib.hid (hp6.ent ((Pc.Ent.right _ _).trans (Pc.Ent.swap _ _ _)))
      clear hp6 H5
      go_wp2_with fail
      go_loopw [16] (fun ix wr => RelKf w0 b (i + r + 1) j B R g c N ix wr) (fun ix _ => N - (intOf ix).toNat)
      case atStart => exact ⟨0, L', G', by omega, rfl, HL'.out, HG'.out, HS'.out, H6.out⟩
      case round =>
        clear HP HL' HG' HS' HE HEN HRE H6 HM2
        obtain ⟨q, L2, G2, hq, rfl, hl2, hg2, hs2, hp⟩ := hrel
        have HP := Lib.hid hp
        have HL2 := Lib.hid hl2
        have HG2 := Lib.hid hg2
        have HS2 := Lib.hid hs2
        rcases Nat.lt_or_ge q N with hlt2 | hge2
        · rcases Nat.lt_or_ge q M.length with hlt3 | hge3
          · obtain ⟨e, he⟩ : ∃ e, M[q]? = some e := ⟨_, List.getElem?_eq_getElem hlt3⟩
            obtain ⟨y, hy⟩ : ∃ y, G2[q]? = some y := ⟨_, List.getElem?_eq_getElem (by omega)⟩
            obtain ⟨f, hf⟩ : ∃ f, L2[q]? = some f := ⟨_, List.getElem?_eq_getElem (by omega)⟩
            obtain ⟨g0, off, vd, rfl, hrg00, hrd00⟩ := HM.out.rd.at he
            have hrg0 := range_mods hrg00 hp.mods (by simp)
            have hrd0 := hrd00.mods hp.mods (by simp)
            have hes := HM.out.sm e (List.mem_of_getElem? he)
            have HES := Lib.hid hes
            obtain ⟨vA, vc, rfl, -⟩ := rd_slice hrd0
            have HRG := Lib.hid hrg0
            obtain ⟨old, hold, holds⟩ := hp.ownAt (g := g) (n := N + 1) (c := c) ((Pc.Ent.left _ _).trans (Pc.Ent.left _ _))
            have HOLD := Lib.hid hold
            obtain ⟨q0, hq1, hq2⟩ := marks_at L2 G2 q f y hf hy
            have hp1 := (hp.ent (Pc.Ent.assoc _ _ _)).step (row_spl hold (q * 5) (entC e (.slice vA e.data.length vc)) (by rw [show (entC e (.slice vA e.data.length vc)).length = 5 from rfl]; omega))
            rw [flatE_spl L2 _ q e _ ownE (by omega) (marksV_len _ _ (by omega))] at hp1
            have H2 := Lib.hid hp1
            have HQ2 := Lib.hid hq2
            have HQ1 := Lib.hid hq1
            have HEE := Lib.hid he
            have HCE := Lib.hid (fun W (hW : Mods [] w0 W) => (range_ent (range_mods hrg00 hW (by simp))).2.2.2.2)
            have HRE0 := Lib.hid (fun W (hW : Mods [] w0 W) => hrd00.mods hW (by simp))
            have hfl : (flatE (L2.set q e) ((marksV L2 G2).set q (.slice vA e.data.length vc)) ++ ownE)[q * 5 + 4]? = some (.slice vA e.data.length vc) := by
              have hq2 : (L2.set q e)[q]? = some e := by rw [List.getElem?_set_self (by omega)]
              have hq3 : ((marksV L2 G2).set q (.slice vA e.data.length vc))[q]? = some (.slice vA e.data.length vc) := by rw [List.getElem?_set_self (by rw [marksV_len _ _ (by omega)]; omega)]
              have hf5 := flatE_at _ _ q 4 _ _ hq2 hq3 (by omega)
              rw [List.getElem?_append_left (List.getElem?_eq_some_iff.1 (hf5.trans (show (entC e (.slice vA e.data.length vc))[4]? = some (.slice vA e.data.length vc) from rfl))).1, hf5]
              rfl
            have HFL := Lib.hid hfl
            clear hp hrg0 hold hp1 hq1 hq2 hl2 hg2 hs2 hes hrd0 he hy hf hrg00 hrd00 hfl
            go_upto_region 16 with (first | (refine wpList_load_mid rfl 47 _ rfl g0 (off + q * 5) rfl (entC e (.slice vA e.data.length vc)) _ HRG.out Tryz.underlying47 rfl info38t ?_) | (refine wpList_store_rowmid rfl 47 _ _ rfl g (q * 5) (entC e (.slice vA e.data.length vc)).toArray rfl rfl 47 old HOLD.out info38t (by rw [show (entC e (.slice vA e.data.length vc)).toArray.size = 5 from rfl]; omega) (by simp [entC, Value.oneCell']) ?_))
            generalize wr.setRow g (spl old.toList (q * 5) (entC e (.slice vA e.data.length vc))).toArray = w7 at *
            have c4 : w7.cell? ⟨g0, off + q * 5 + 4, none⟩ = some (.slice vA e.data.length vc) := HCE.out w7 H2.out.mods
            have HLP := Lib.hid (lent_P e.data H2.out (HRE0.out w7 H2.out.mods) (Nat.le_trans HES.out.data (by omega)))
            go_wp2_with fail
            refine HLP.out.mono ?_; rintro x w8 ⟨g', rfl, hg', hp8⟩
            obtain ⟨d4, f4⟩ := row_cellS (i := q * 5 + 4) (x := .slice vA e.data.length vc) (hp8.rowAt ((Pc.Ent.right _ _).trans (Pc.Ent.left _ _))) (HFL.out)
            have hp9 := (hp8.ent (Pc.Ent.swap _ _ _)).step (row_setc (i := q * 5 + 4) (markV e g'))
            rw [flatE_set4 _ _ _ _ _ (by rw [List.length_set, HL2.out]; exact hlt2) (by rw [List.length_set, List.length_set]; exact marksV_len _ _ (by rw [HL2.out, HG2.out])), List.set_set, marksV_set] at hp9
            have hp10 : Post ((LentE g c N (L2.set q e) (G2.set q g')).star ((BkN b (i + r + 1) j B).star R)) w0 [] (w8.setCell ⟨g, q * 5 + 4, none⟩ (markV e g')) :=
              hp9.ent (((Pc.Ent.refl _).mono (((Pc.Ent.refl _).mono (((HQ1.out.trans (Pc.Ent.right _ _)).mono (Pc.Ent.refl _)))).trans ((Pc.Ent.assoc' _ _ _).trans ((HQ2.out e g').mono (Pc.Ent.refl _))))).trans (Pc.Ent.assoc' _ _ _))
            have HR : Hid (RelKf w0 b (i + r + 1) j B R g c N (.int .i64 ((q : Int) + 1)) (w8.setCell ⟨g, q * 5 + 4, none⟩ (.slice (some ⟨g', 0, none⟩) e.data.length (e.data.length + 2)))) := Lib.hid ⟨q + 1, L2.set q e, G2.set q g', by omega, rfl, by rw [List.length_set]; exact HL2.out, by rw [List.length_set]; exact HG2.out, fun x hx => (List.mem_or_eq_of_mem_set hx).elim (HS2.out x) (fun h => by rw [h]; exact HES.out), hp10⟩
            clear hp8 hp9 hp10 c4 HLP H2 HFL
            go_wp2_with fail
            exact ⟨HR.out, by simp only [intOf]; omega⟩
          · have hb : decide ((q : Int) < (M.length : Int)) = false := by simp; omega
            have HR : Hid (RelKe w0 b i j B R g c N (.int .i64 ((r : Int) + 1)) wr) := Lib.hid ⟨r + 1, L2, G2, by omega, rfl, hl2, hg2, hs2, hp⟩
            clear hp hl2 hg2 hs2
            go_wp2_with fail
            exact ⟨HR.out, by simp only [intOf]; omega⟩
        · have hb : decide ((q : Int) < (N : Int)) = false := by simp; omega
          have HR : Hid (RelKe w0 b i j B R g c N (.int .i64 ((r : Int) + 1)) wr) := Lib.hid ⟨r + 1, L2, G2, by omega, rfl, hl2, hg2, hs2, hp⟩
          clear hp hl2 hg2 hs2
          go_wp2_with fail
          exact ⟨HR.out, by simp only [intOf]; omega⟩
    · obtain rfl : r = 2 := by omega
      have H9 := Lib.hid (hp.ent (Pc.Ent.right _ _))
      clear hp hl' hg' hs'
      go_wp2_with fail
      go_ret
      exact ⟨rfl, H9.out⟩
end Go.Proofs.YtmcekhgmmocajaaGreatDoor
