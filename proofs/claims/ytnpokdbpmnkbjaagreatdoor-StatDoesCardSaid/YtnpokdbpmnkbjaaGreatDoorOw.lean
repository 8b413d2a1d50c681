/- Pieces of memory in any order. | A record stored in place in a row of records. | The law's Book opened at one of its lists. -/
import Derived.Test.YtnpokdbpmnkbjaaGreatDoorCa
import Derived.Laws.Tables
import Derived.Test.YtnpokdbpmnkbjaaGreatDoorCc
namespace Go.Proofs.YtnpokdbpmnkbjaaGreatDoor.Me
open Go Go.RowKit

namespace Pc
def all : List Pc → Pc
  | [] => emp
  | [p] => p
  | p :: q :: L => p.star (all (q :: L))
theorem all_cons {p : Pc} {l : List Pc} (h : l ≠ []) : all (p :: l) = p.star (all l) := by
  cases l with
  | nil => exact absurd rfl h
  | cons q l => rfl
theorem all_perm {l m : List Pc} (h : l.Perm m) : Ent (all l) (all m) := by
  induction h with
  | nil => exact Ent.refl _
  | cons x h ih =>
    rename_i l1 l2
    by_cases h1 : l1 = []
    · subst h1
      rw [h.nil_eq]
      exact Ent.refl _
    · rw [all_cons h1, all_cons (fun h2 => h1 (by subst h2; exact h.eq_nil))]
      exact (Ent.refl x).mono ih
  | swap x y l =>
    cases l with
    | nil => exact Ent.comm _ _
    | cons z l => exact Ent.swap _ _ _
  | trans _ _ h1 h2 => exact h1.trans h2
/-- The pieces in the order of the indices idx. -/
theorem perm (l : List Pc) (idx : List Nat) {n : Nat} (h : idx.Perm (List.range n)) (hn : l.length = n := by rfl) : Ent (all l) (all (idx.map fun i => l.getD i emp)) := by
  subst hn
  refine all_perm ?_
  have e : l = (List.range l.length).map fun i => l.getD i emp := by
    refine List.ext_getElem (by simp) fun i h1 h2 => ?_
    simp [List.getD, h1]
  conv => lhs; rw [e]
  exact (h.map _).symm
theorem Ent.at6 (p q r s t u x : Pc) : Ent (p.star (q.star (r.star (s.star (t.star (u.star x)))))) (u.star (p.star (q.star (r.star (s.star (t.star x)))))) := ((Ent.refl p).mono (Ent.at5 q r s t u x)).trans (Ent.swap p u _)
end Pc
end Go.Proofs.YtnpokdbpmnkbjaaGreatDoor.Me
namespace Go.Proofs.YtnpokdbpmnkbjaaGreatDoor
open Go Go.RowKit Me

namespace Me
section
variable {P : Program}
/-- The row, with some cells written over. -/
def spl (xs : List Value) (o : Nat) (vs : List Value) : List Value := xs.take o ++ vs ++ xs.drop (o + vs.length)
theorem wp_store_rowmid {op : Oper} {a : Act} {w : World} {K : Act → World → Prop} {Q : Exit → Act → World → Prop} (ty : TypeId) (x y : Operand) (ho : op.op = .store ty x y)
    (g o : Nat) (cells : Array Value) (hx : a.eval x = .pointer (some ⟨g, o, none⟩)) (hy : a.eval y = .agg cells)
    (t : TypeId) (old : Array Value) (hg : w.heap[g]? = some (.cells old t (0, 0))) (hi : (P.info? ty).map (·.size) = some cells.size) (hle : o + cells.size ≤ old.size) (h1 : ∀ v ∈ cells.toList, v.oneCell' = true)
    (h : K (a.put op.dst undef) (w.setRow g (spl old.toList o cells.toList).toArray)) : op.wp P a w K Q := by
  have hr := run_storeCells_at P g o t cells.toList 0 old w hg (by simp; omega) h1
  simp only [Nat.add_zero] at hr
  have hv : (storeVar ty ⟨g, o, none⟩ (.agg cells)).run P w = .ok () (w.setRow g (spl old.toList o cells.toList).toArray) := by
    cases hq : P.info? ty with
    | none => simp [hq] at hi
    | some i =>
      have hs : cells.size = i.size := by simp [hq] at hi; omega
      simp [storeVar, sizeOf, typeInfo, hq, Value.cells, hs, hr, spl]
  unfold Oper.wp execOp
  simp only [ho, hx, hy, Instr.storeAt, Instr.sureAddr, Sem.run_bind, Sem.run_pure, Result.andThen_ok, hv]
  exact h
theorem wpList_store_rowmid {ops : Array Oper} {rest : List Oper} {op : Oper} {a : Act} {w : World} {Q : Exit → Act → World → Prop} (hgd : op.guard = none) (ty : TypeId) (x y : Operand) (ho : op.op = .store ty x y)
    (g o : Nat) (cells : Array Value) (hx : a.eval x = .pointer (some ⟨g, o, none⟩)) (hy : a.eval y = .agg cells)
    (t : TypeId) (old : Array Value) (hg : w.heap[g]? = some (.cells old t (0, 0))) (hi : (P.info? ty).map (·.size) = some cells.size) (hle : o + cells.size ≤ old.size) (h1 : ∀ v ∈ cells.toList, v.oneCell' = true)
    (h : wpList P ops Q rest (a.put op.dst undef) (w.setRow g (spl old.toList o cells.toList).toArray)) : wpList P ops Q (op :: rest) a w :=
  wpList_plain hgd fun _ hK => wp_store_rowmid ty x y ho g o cells hx hy t old hg hi hle h1 (hK _ _ h)
end
theorem spl_take (old : List Value) (o N : Nat) (vs : List Value) (h : o + vs.length ≤ N) (hN : N ≤ old.length) : (spl old o vs).take N = spl (old.take N) o vs := by
  unfold spl
  have e1 : (old.take o ++ vs).length = o + vs.length := by simp; omega
  rw [List.take_append, List.take_of_length_le (by omega), e1, List.take_take, show min o N = o by omega, List.drop_take]
theorem spl_len (old : List Value) (o : Nat) (vs : List Value) (h : o + vs.length ≤ old.length) : (spl old o vs).length = old.length := by
  unfold spl
  simp
  omega
/-- A row of which cells were written over. -/
theorem row_spl {e : TypeId} {size : Nat} {g n c : Nat} {xs : List Value} {w : World} {old : Array Value} {t : TypeId} (hg : w.heap[g]? = some (.cells old t (0, 0))) (o : Nat) (vs : List Value) (h : o + vs.length ≤ n * size) :
    ∀ F1, (Pc.row e size (.slice (some ⟨g, 0, none⟩) n c) n xs).A w F1 → Post (Pc.row e size (.slice (some ⟨g, 0, none⟩) n c) n (spl xs o vs)) w F1 (w.setRow g (spl old.toList o vs).toArray) := by
  rintro F1 ⟨⟨h1, hh⟩, rfl⟩
  rcases hh with ⟨he, _⟩ | ⟨g2, cap, cur, he, hb, hg2, hn, hc, hsz, hx⟩
  · cases he
  · simp only [Value.slice.injEq, Option.some.injEq, Addr.mk.injEq, true_and, and_true] at he
    obtain ⟨rfl, rfl⟩ := he
    rw [hg] at hg2
    simp only [Option.some.injEq, Obj.cells.injEq, and_true] at hg2
    obtain ⟨rfl, rfl⟩ := hg2
    have hl : n * size ≤ old.toList.length := by
      rw [Array.length_toList, hsz]
      exact Nat.mul_le_mul_right _ hn
    refine ⟨[g], ⟨⟨?_, .inr ⟨g, c, (spl old.toList o vs).toArray, rfl, hb, setRow_heap w g old _ _ _ hg, hn, hc, ?_, ?_⟩⟩, rfl⟩, ⟨rfl, rfl, rfl, by simp, fun k _ hk => setRow_other w g k _ (fun e => hk (by subst e; simp [Value.ownBlock]))⟩, fun _ hk => Or.inl (by simpa [Value.ownBlock] using hk)⟩
    · rw [spl_len _ _ _ (by rw [h1]; exact h), h1]
    · simp only [List.size_toArray]
      rw [spl_len _ _ _ (by omega), Array.length_toList, hsz]
    · rw [List.toList_toArray, spl_take _ _ _ _ h hl, hx]
theorem Post.ownAt {p : Pc} {w0 w : World} {F : List Nat} {e : TypeId} {size : Nat} {g n c : Nat} {xs : List Value} (h : Post p w0 F w) (hp : Pc.Ent p (Pc.row e size (.slice (some ⟨g, 0, none⟩) n c) n xs)) :
    ∃ old : Array Value, w.heap[g]? = some (.cells old e (0, 0)) ∧ n * size ≤ old.size := by
  obtain ⟨h1, hh⟩ := h.rowAt hp
  rcases hh with ⟨he, _⟩ | ⟨g2, cap, cur, he, hb, hg2, hn, hc, hsz, hx⟩
  · cases he
  · simp only [Value.slice.injEq, Option.some.injEq, Addr.mk.injEq, true_and, and_true] at he
    obtain ⟨rfl, rfl⟩ := he
    exact ⟨cur, hg2, by rw [hsz]; exact Nat.mul_le_mul_right _ hn⟩
end Me
theorem flatT_len (L : List StatP) : (flatT L).length = L.length * 13 := by
  induction L with
  | nil => rfl
  | cons s L ih =>
    show ((statV s).toList ++ flatT L).length = _
    rw [List.length_append, ih, statV_len', List.length_cons]
    omega
theorem flatT_append (L M : List StatP) : flatT (L ++ M) = flatT L ++ flatT M := by simp [flatT]
theorem flatT_set (L : List StatP) (i : Nat) (s : StatP) (h : i < L.length) : spl (flatT L) (i * 13) (statV s).toList = flatT (L.set i s) := by
  have e : L = L.take i ++ L[i] :: L.drop (i + 1) := by
    rw [List.getElem_cons_drop, List.take_append_drop]
  have hs : L.set i s = L.take i ++ s :: L.drop (i + 1) := List.set_eq_take_append_cons_drop .. |>.trans (by rw [if_pos h])
  rw [hs]
  have ef : flatT L = flatT (L.take i) ++ ((statV L[i]).toList ++ flatT (L.drop (i + 1))) := by
    conv => lhs; rw [e]
    rw [flatT_append]
    rfl
  have hl : (flatT (L.take i)).length = i * 13 := by rw [flatT_len, List.length_take, show min i L.length = i by omega]
  unfold spl
  rw [ef, statV_len', List.take_left' hl, ← List.append_assoc (flatT (L.take i)), List.drop_left' (by rw [List.length_append, hl, statV_len']), flatT_append]
  simp [flatT]
end Go.Proofs.YtnpokdbpmnkbjaaGreatDoor
namespace Go.Proofs.YtnpokdbpmnkbjaaGreatDoor
open Go Go.RowKit Me

namespace Me
section
variable {w : World}
theorem row_cell {e : TypeId} {base n : Nat} {v : Value} {xs : List Value} (h : w.ownsRow base e 1 v n xs) {i : Nat} {x : Value} (hi : xs[i]? = some x) : ∃ g c, v = .slice (some ⟨g, 0, none⟩) n c ∧ w.cell? ⟨g, i, none⟩ = some x ∧ w.frozen? ⟨g, i, none⟩ = false := by
  have hl := h.1
  have hi' := (List.getElem?_eq_some_iff.1 hi).1
  rcases h.2 with ⟨rfl, rfl⟩ | ⟨g, cap, cur, rfl, _, hg, _, _, _, ht⟩
  · omega
  · refine ⟨g, cap, rfl, ?_, frozen_of_row _ _ _ _ _ hg⟩
    rw [cell_of_row _ _ _ _ _ _ hg, ← hi, ← ht, List.getElem?_take_of_lt (by omega), Array.getElem?_toList]
theorem row_set1 {e : TypeId} {g n c i : Nat} {xs : List Value} (x : Value) : ∀ F1, (Pc.row e 1 (.slice (some ⟨g, 0, none⟩) n c) n xs).A w F1 → Post (Pc.row e 1 (.slice (some ⟨g, 0, none⟩) n c) n (xs.set i x)) w F1 (w.setCell ⟨g, i, none⟩ x) := by
  rintro F1 ⟨⟨h1, hh⟩, rfl⟩
  rcases hh with ⟨he, _⟩ | ⟨g2, cap, cur, he, hb, hg, hn, hc, hs, ht⟩
  · cases he
  · simp only [Value.slice.injEq, Option.some.injEq, Addr.mk.injEq, true_and, and_true] at he
    obtain ⟨rfl, rfl⟩ := he
    refine ⟨[g], ⟨⟨by simpa using h1, .inr ⟨g, c, _, rfl, hb, heap_setCell_same _ _ _ _ _ _ hg, hn, hc, by simpa using hs, ?_⟩⟩, rfl⟩, (Mods.refl _ _).setCell (p := ⟨g, i, none⟩) (Or.inl (by simp [Value.ownBlock])) x, fun _ hk => Or.inl (by simpa [Value.ownBlock] using hk)⟩
    rw [← ht, Array.toList_setIfInBounds, List.take_set]
theorem src_drew {P : Program} {tx e' : TypeId} (hk : P.underlying tx = some (.slice e')) (w : World) (x : Value) (t : TypeId) (h1 : x.oneCell' = true) : Src P 1 tx (.slice (some ⟨w.heap.size, 0, none⟩) 1 1) 1 [x] ((w.alloc (.cells #[x] t)).drew) :=
  Src.ofSlice _ hk _ _ _ _ rfl (cell_one_new _ _ _) (by intro u hu; simp at hu; subst hu; exact h1)
theorem grown_drew {w w2 : World} {o : Obj} {r : Option Nat} (h : ((w.alloc o).drew).grownBy w2 r) : (w.drew.alloc o).grownBy w2 r := h
end
end Me
theorem items_pick : ∀ (I : List It) (i : Nat) (x : It), I[i]? = some x → Pc.Ent (items I) ((itemP x).star (items (I.eraseIdx i)))
  | [], i, x, h => by simp at h
  | y :: I, 0, x, h => by
    simp at h
    subst h
    exact Pc.Ent.refl _
  | y :: I, i + 1, x, h => ((Pc.Ent.refl _).mono (items_pick I i x (by simpa using h))).trans (Pc.Ent.swap _ _ _)
theorem items_put : ∀ (I : List It) (i : Nat) (x : It), i < I.length → Pc.Ent ((itemP x).star (items (I.eraseIdx i))) (items (I.set i x))
  | [], i, x, h => by simp at h
  | y :: I, 0, x, h => Pc.Ent.refl _
  | y :: I, i + 1, x, h => (Pc.Ent.swap _ _ _).trans ((Pc.Ent.refl _).mono (items_put I i x (by simpa using h)))
theorem itemsS_pick : ∀ (I : List Is) (i : Nat) (x : Is), I[i]? = some x → Pc.Ent (itemsS I) ((itemS x).star (itemsS (I.eraseIdx i)))
  | [], i, x, h => by simp at h
  | y :: I, 0, x, h => by
    simp at h
    subst h
    exact Pc.Ent.refl _
  | y :: I, i + 1, x, h => ((Pc.Ent.refl _).mono (itemsS_pick I i x (by simpa using h))).trans (Pc.Ent.swap _ _ _)
theorem itemsS_put : ∀ (I : List Is) (i : Nat) (x : Is), i < I.length → Pc.Ent ((itemS x).star (itemsS (I.eraseIdx i))) (itemsS (I.set i x))
  | [], i, x, h => by simp at h
  | y :: I, 0, x, h => Pc.Ent.refl _
  | y :: I, i + 1, x, h => (Pc.Ent.swap _ _ _).trans ((Pc.Ent.refl _).mono (itemsS_put I i x (by simpa using h)))
theorem flat7 (C rb rc pv pu it Z : Pc) : Pc.Ent (C.star ((rb.star (rc.star ((pv.star pu).star it))).star Z)) (pv.star (pu.star (it.star (C.star (rb.star (rc.star Z)))))) :=
  ((Pc.Ent.refl C).mono ((Pc.Ent.assoc rb _ Z).trans ((Pc.Ent.refl rb).mono ((Pc.Ent.assoc rc _ Z).trans ((Pc.Ent.refl rc).mono ((Pc.Ent.assoc (pv.star pu) it Z).trans (Pc.Ent.assoc pv pu _))))))).trans
    (Pc.perm [C, rb, rc, pv, pu, it, Z] [3, 4, 5, 0, 1, 2, 6] (n := 7) (by decide))
theorem flat7' (C rb rc pv pu it Z : Pc) : Pc.Ent (pv.star (pu.star (it.star (C.star (rb.star (rc.star Z)))))) (C.star ((rb.star (rc.star ((pv.star pu).star it))).star Z)) :=
  (Pc.perm [pv, pu, it, C, rb, rc, Z] [3, 4, 5, 0, 1, 2, 6] (n := 7) (by decide)).trans
    ((Pc.Ent.refl C).mono (((Pc.Ent.refl rb).mono (((Pc.Ent.refl rc).mono ((Pc.Ent.assoc' pv pu _).trans (Pc.Ent.assoc' (pv.star pu) it Z))).trans (Pc.Ent.assoc' rc _ Z))).trans (Pc.Ent.assoc' rb _ Z)))
/-- The Book, its lists told. -/
def Ow (b : Nat) (vb vc vs vt : Value) (I : List It) (J : List Is) (R : Pc) : Pc := (BkC b vb vc vs vt).star ((RbI vb vc I).star ((RsJ vs vt J).star R))
/-- The Book opened at a list of bytes. -/
def OwB (b : Nat) (vb vc vs vt v u : Value) (l m : List UInt8) (it : Pc) (xb xc : List Value) (n : Nat) (Z : Pc) : Pc :=
  (rowOf v l).star ((rowOf u m).star (it.star ((BkC b vb vc vs vt).star ((Pc.row 37 1 vb n xb).star ((Pc.row 37 1 vc n xc).star Z)))))
def OwS (b : Nat) (vb vc vs vt v u : Value) (l m : List StatP) (it : Pc) (xs xt : List Value) (n : Nat) (Z : Pc) : Pc :=
  (rowS v l).star ((rowS u m).star (it.star ((BkC b vb vc vs vt).star ((Pc.row 38 1 vs n xs).star ((Pc.row 38 1 vt n xt).star Z)))))
section
variable {b : Nat} {vb vc vs vt : Value} {I : List It} {J : List Is} {R : Pc}
theorem ow_openB {i : Nat} {x : It} (hx : I[i]? = some x) : Pc.Ent (Ow b vb vc vs vt I J R) (OwB b vb vc vs vt x.v x.u x.bs x.bs (items (I.eraseIdx i)) (I.map It.v) (I.map It.u) I.length ((RsJ vs vt J).star R)) :=
  ((Pc.Ent.refl _).mono (((Pc.Ent.refl _).mono ((Pc.Ent.refl _).mono (items_pick I i x hx))).mono (Pc.Ent.refl _))).trans (flat7 _ _ _ _ _ _ _)
theorem ow_shutB {i : Nat} {x : It} (hi : i < I.length) : Pc.Ent (OwB b vb vc vs vt x.v x.u x.bs x.bs (items (I.eraseIdx i)) ((I.map It.v).set i x.v) ((I.map It.u).set i x.u) I.length ((RsJ vs vt J).star R)) (Ow b vb vc vs vt (I.set i x) J R) := by
  refine (flat7' _ _ _ _ _ _ _).trans ((Pc.Ent.refl _).mono (Pc.Ent.mono ?_ (Pc.Ent.refl _)))
  unfold RbI
  rw [List.length_set, List.map_set, List.map_set]
  exact (Pc.Ent.refl _).mono ((Pc.Ent.refl _).mono (items_put I i x hi))
theorem ow_openS {i : Nat} {x : Is} (hx : J[i]? = some x) : Pc.Ent (Ow b vb vc vs vt I J R) (OwS b vb vc vs vt x.v x.u x.L x.L (itemsS (J.eraseIdx i)) (J.map Is.v) (J.map Is.u) J.length ((RbI vb vc I).star R)) :=
  ((Pc.Ent.refl _).mono ((Pc.Ent.swap _ _ _).trans (((Pc.Ent.refl _).mono ((Pc.Ent.refl _).mono (itemsS_pick J i x hx))).mono (Pc.Ent.refl _)))).trans (flat7 _ _ _ _ _ _ _)
theorem ow_shutS {i : Nat} {x : Is} (hi : i < J.length) : Pc.Ent (OwS b vb vc vs vt x.v x.u x.L x.L (itemsS (J.eraseIdx i)) ((J.map Is.v).set i x.v) ((J.map Is.u).set i x.u) J.length ((RbI vb vc I).star R)) (Ow b vb vc vs vt I (J.set i x) R) := by
  refine (flat7' _ _ _ _ _ _ _).trans ((Pc.Ent.refl _).mono ((Pc.Ent.swap _ _ _).trans ((Pc.Ent.refl _).mono (Pc.Ent.mono ?_ (Pc.Ent.refl _)))))
  unfold RsJ
  rw [List.length_set, List.map_set, List.map_set]
  exact (Pc.Ent.refl _).mono ((Pc.Ent.refl _).mono (itemsS_put J i x hi))
end
theorem set_self {α : Type} {l : List α} {i : Nat} {x : α} (h : l[i]? = some x) : l.set i x = l := by
  refine List.ext_getElem? fun j => ?_
  rw [List.getElem?_set]
  split
  · rename_i e
    subst e
    rw [if_pos (List.getElem?_eq_some_iff.1 h).1, h]
  · rfl
section
variable {b n : Nat} {vb vc vs vt v u : Value} {l m : List UInt8} {it Z : Pc} {xb xc : List Value} {w0 w : World} {F : List Nat}
/-- What the Book's cells tell, opened at a list. -/
theorem owB_cells (h : Post (OwB b vb vc vs vt v u l m it xb xc n Z) w0 F w) : w.heap[b]? = some (.cells #[vb, vc, vs, vt] 28 (0, 0)) ∧ w.ownsRow 0 37 1 vb n xb ∧ w.ownsRow 0 37 1 vc n xc ∧ w.ownsRow 0 5 1 v l.length (l.map byteV) ∧ w.ownsRow 0 5 1 u m.length (m.map byteV) :=
  ⟨h.blkOf ((Pc.Ent.right _ _).trans ((Pc.Ent.right _ _).trans ((Pc.Ent.right _ _).trans (Pc.Ent.left _ _)))),
   h.rowAt ((Pc.Ent.right _ _).trans ((Pc.Ent.right _ _).trans ((Pc.Ent.right _ _).trans ((Pc.Ent.right _ _).trans (Pc.Ent.left _ _))))),
   h.rowAt ((Pc.Ent.right _ _).trans ((Pc.Ent.right _ _).trans ((Pc.Ent.right _ _).trans ((Pc.Ent.right _ _).trans ((Pc.Ent.right _ _).trans (Pc.Ent.left _ _)))))),
   h.rowAt (Pc.Ent.left _ _), h.rowAt ((Pc.Ent.right _ _).trans (Pc.Ent.left _ _))⟩
end
section
variable {b n : Nat} {vb vc vs vt v u : Value} {l m : List StatP} {it Z : Pc} {xs xt : List Value} {w0 w : World} {F : List Nat}
theorem owS_cells (h : Post (OwS b vb vc vs vt v u l m it xs xt n Z) w0 F w) : w.heap[b]? = some (.cells #[vb, vc, vs, vt] 28 (0, 0)) ∧ w.ownsRow 0 38 1 vs n xs ∧ w.ownsRow 0 38 1 vt n xt ∧ w.ownsRow 0 35 13 v l.length (flatT l) ∧ w.ownsRow 0 35 13 u m.length (flatT m) :=
  ⟨h.blkOf ((Pc.Ent.right _ _).trans ((Pc.Ent.right _ _).trans ((Pc.Ent.right _ _).trans (Pc.Ent.left _ _)))),
   h.rowAt ((Pc.Ent.right _ _).trans ((Pc.Ent.right _ _).trans ((Pc.Ent.right _ _).trans ((Pc.Ent.right _ _).trans (Pc.Ent.left _ _))))),
   h.rowAt ((Pc.Ent.right _ _).trans ((Pc.Ent.right _ _).trans ((Pc.Ent.right _ _).trans ((Pc.Ent.right _ _).trans ((Pc.Ent.right _ _).trans (Pc.Ent.left _ _)))))),
   h.rowAt (Pc.Ent.left _ _), h.rowAt ((Pc.Ent.right _ _).trans (Pc.Ent.left _ _))⟩
end
/-- The Book's cells and rows, closed. -/
theorem ow_cells {b : Nat} {vb vc vs vt : Value} {I : List It} {J : List Is} {R : Pc} {w0 w : World} {F : List Nat} (h : Post (Ow b vb vc vs vt I J R) w0 F w) :
    w.heap[b]? = some (.cells #[vb, vc, vs, vt] 28 (0, 0)) ∧ w.ownsRow 0 37 1 vb I.length (I.map It.v) ∧ w.ownsRow 0 37 1 vc I.length (I.map It.u) ∧ w.ownsRow 0 38 1 vs J.length (J.map Is.v) ∧ w.ownsRow 0 38 1 vt J.length (J.map Is.u) :=
  ⟨h.blkOf (Pc.Ent.left _ _), h.rowAt ((Pc.Ent.right _ _).trans ((Pc.Ent.left _ _).trans (Pc.Ent.left _ _))), h.rowAt ((Pc.Ent.right _ _).trans ((Pc.Ent.left _ _).trans ((Pc.Ent.right _ _).trans (Pc.Ent.left _ _)))),
   h.rowAt ((Pc.Ent.right _ _).trans ((Pc.Ent.right _ _).trans ((Pc.Ent.left _ _).trans (Pc.Ent.left _ _)))), h.rowAt ((Pc.Ent.right _ _).trans ((Pc.Ent.right _ _).trans ((Pc.Ent.left _ _).trans ((Pc.Ent.right _ _).trans (Pc.Ent.left _ _)))))⟩
end Go.Proofs.YtnpokdbpmnkbjaaGreatDoor
