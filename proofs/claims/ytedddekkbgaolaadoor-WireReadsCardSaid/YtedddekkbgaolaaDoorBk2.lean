/- The Book's own cells and rows, side by side; what a store, an append does to them. -/
import Derived.Test.YtedddekkbgaolaaDoorBk1
import Derived.Deep.RegionLaw
namespace Go.Proofs.YtedddekkbgaolaaDoor
open Go.RowKit Me

namespace Me
open Go
/-- append, as one step of a region that draws its order. -/
theorem step_app {P : Program} {ops : Array Oper} {o : Oper} {a : Act} {w : World} {K : Act → World → Prop} {Q : Exit → Act → World → Prop} {E : Prop} (hgd : o.guard = none) (s x : Operand) (t tx : TypeId)
    (ho : o.op = .call { callee := .builtin .append, args := #[s, x], argTypes := #[t, tx] })
    (base : Nat) (e : TypeId) (i : TypeInfo) (z : Value) (size bytes : Nat) (ht : P.underlying t = some (.slice e)) (hi : P.info? e = some i) (hz : i.zero = some z)
    (hsize : i.size = size) (hby : i.bytes = bytes) (hzs : z.cells.size = size)
    (v : Value) (n : Nat) (xs : List Value) (hs : a.eval s = v) (hown : w.ownsRow base e size v n xs)
    (vx : Value) (m : Nat) (news : List Value) (hx : a.eval x = vx) (hsrc : Src P size tx vx m news w)
    (h63 : n + m ≤ maxLen) (hbytes : (n + m) * bytes ≤ 140737488355328) (hbase : base ≤ w.heap.size)
    (h : ∀ v' w', w'.ownsRow base e size v' (n + m) (xs ++ news) → w.grownBy w' v.ownBlock → (v'.ownBlock = v.ownBlock ∨ v'.ownBlock = some w.heap.size) → K (a.put o.dst v') w') :
    if Region.wanted o (yielded ops a.tmps) = true then Oper.wp P o a w K Q else E := by
  have hw : Region.wanted o (yielded ops a.tmps) = true := by simp [Region.wanted, hgd]
  rw [if_pos hw]
  obtain ⟨v', w', hr, h2, h3, h4⟩ := run_app (P := P) w base t tx o.type e i z size bytes ht hi hz hsize hby hzs v n xs hown vx m news hsrc h63 hbytes hbase
  unfold Oper.wp execOp
  simp only [ho, resolve, invoke, builtin, Sem.run_bind, Sem.run_pure, Result.andThen_ok, List.map_toArray, List.map_cons, List.map_nil, hs, hx, hr]
  exact h v' w' h2 h3 h4
theorem src_drew {P : Program} {tx e' : TypeId} (hk : P.underlying tx = some (.slice e')) (w : World) (x : Value) (t : TypeId) (h1 : x.oneCell' = true) : Src P 1 tx (.slice (some ⟨w.heap.size, 0, none⟩) 1 1) 1 [x] ((w.alloc (.cells #[x] t)).drew) :=
  Src.ofSlice _ hk _ _ _ _ rfl (cell_one_new _ _ _) (by intro u hu; simp at hu; subst hu; exact h1)
theorem grown_drew {w w2 : World} {o : Obj} {r : Option Nat} (h : ((w.alloc o).drew).grownBy w2 r) : (w.drew.alloc o).grownBy w2 r := h
end Me
def Co (b : Nat) (cs : Array Value) (vl vm vh vt vf vw : Value) (l m h t f u : List Value) : Pc :=
  (Pc.blk b (.cells cs 45)).star ((Pc.row 43 1 vl l.length l).star ((Pc.row 5 1 vm m.length m).star ((Pc.row 43 1 vh h.length h).star ((Pc.row 43 1 vt t.length t).star ((Pc.row 43 1 vf f.length f).star (Pc.row 43 1 vw u.length u))))))
section
variable {b : Nat} {cs : Array Value} {vl vm vh vt vf vw : Value} {l m h t f u : List Value} {w0 w w2 : World} {F : List Nat} {r : Pc}
theorem co_blk (hp : Post ((Co b cs vl vm vh vt vf vw l m h t f u).star r) w0 F w) : w.heap[b]? = some (.cells cs 45 (0, 0)) := hp.blkAt ((Pc.Ent.left _ _).trans (Pc.Ent.left _ _))
theorem co_l (hp : Post ((Co b cs vl vm vh vt vf vw l m h t f u).star r) w0 F w) : w.ownsRow 0 43 1 vl l.length l := hp.rowAt ((Pc.Ent.left _ _).trans ((Pc.Ent.right _ _).trans (Pc.Ent.left _ _)))
theorem co_m (hp : Post ((Co b cs vl vm vh vt vf vw l m h t f u).star r) w0 F w) : w.ownsRow 0 5 1 vm m.length m := hp.rowAt ((Pc.Ent.left _ _).trans ((Pc.Ent.right _ _).trans ((Pc.Ent.right _ _).trans (Pc.Ent.left _ _))))
theorem co_h (hp : Post ((Co b cs vl vm vh vt vf vw l m h t f u).star r) w0 F w) : w.ownsRow 0 43 1 vh h.length h := hp.rowAt ((Pc.Ent.left _ _).trans ((Pc.Ent.right _ _).trans ((Pc.Ent.right _ _).trans ((Pc.Ent.right _ _).trans (Pc.Ent.left _ _)))))
theorem co_t (hp : Post ((Co b cs vl vm vh vt vf vw l m h t f u).star r) w0 F w) : w.ownsRow 0 43 1 vt t.length t := hp.rowAt ((Pc.Ent.left _ _).trans ((Pc.Ent.right _ _).trans ((Pc.Ent.right _ _).trans ((Pc.Ent.right _ _).trans ((Pc.Ent.right _ _).trans (Pc.Ent.left _ _))))))
theorem co_set (hp : Post ((Co b cs vl vm vh vt vf vw l m h t f u).star r) w0 F w) (i : Nat) (x : Value) : Post ((Co b (cs.setIfInBounds i x) vl vm vh vt vf vw l m h t f u).star r) w0 F (w.setCell ⟨b, i, none⟩ x) :=
  ((hp.ent (Pc.Ent.assoc _ _ _)).step (blk_turn x)).ent (Pc.Ent.assoc' _ _ _)
theorem co_pushl {vl' x : Value} (hp : Post ((Co b cs vl vm vh vt vf vw l m h t f u).star r) w0 F w) (hc : ∀ F1, (Pc.row 43 1 vl l.length l).A w F1 → Post (Pc.row 43 1 vl' (l.length + 1) (l ++ [x])) w F1 w2) : Post ((Co b cs vl' vm vh vt vf vw (l ++ [x]) m h t f u).star r) w0 F w2 := by
  have h1 := (hp.ent (((Pc.Ent.swap _ _ _).mono (Pc.Ent.refl r)).trans (Pc.Ent.assoc _ _ _))).step hc
  have h2 := h1.ent ((Pc.Ent.assoc' _ _ _).trans ((Pc.Ent.swap _ _ _).mono (Pc.Ent.refl r)))
  unfold Co
  rw [List.length_append, List.length_singleton]
  exact h2
theorem co_pushm {vm' x : Value} (hp : Post ((Co b cs vl vm vh vt vf vw l m h t f u).star r) w0 F w) (hc : ∀ F1, (Pc.row 5 1 vm m.length m).A w F1 → Post (Pc.row 5 1 vm' (m.length + 1) (m ++ [x])) w F1 w2) : Post ((Co b cs vl vm' vh vt vf vw l (m ++ [x]) h t f u).star r) w0 F w2 := by
  have h1 := (hp.ent (((Pc.Ent.at3 _ _ _ _).mono (Pc.Ent.refl r)).trans (Pc.Ent.assoc _ _ _))).step hc
  have h2 := h1.ent ((Pc.Ent.assoc' _ _ _).trans (((Pc.Ent.swap _ _ _).trans ((Pc.Ent.refl _).mono (Pc.Ent.swap _ _ _))).mono (Pc.Ent.refl r)))
  unfold Co
  rw [List.length_append, List.length_singleton]
  exact h2
/-- A data piece beside has turned. -/
theorem co_data {p p' q : Pc} (hp : Post ((Co b cs vl vm vh vt vf vw l m h t f u).star (p.star q)) w0 F w) (hc : ∀ F1, p.A w F1 → Post p' w F1 w2) : Post ((Co b cs vl vm vh vt vf vw l m h t f u).star (p'.star q)) w0 F w2 :=
  ((hp.ent (Pc.Ent.swap _ _ _)).step hc).ent (Pc.Ent.swap _ _ _)
theorem cells6 {x0 x1 x2 x3 x4 x5 : Value} (hb : w.heap[b]? = some (.cells #[x0, x1, x2, x3, x4, x5] 45 (0, 0))) :
    (w.cell? ⟨b, 0, none⟩ = some x0 ∧ w.cell? ⟨b, 1, none⟩ = some x1 ∧ w.cell? ⟨b, 2, none⟩ = some x2 ∧ w.cell? ⟨b, 3, none⟩ = some x3 ∧ w.cell? ⟨b, 4, none⟩ = some x4 ∧ w.cell? ⟨b, 5, none⟩ = some x5) ∧ ∀ i, w.frozen? ⟨b, i, none⟩ = false := by
  refine ⟨⟨?_, ?_, ?_, ?_, ?_, ?_⟩, fun i => frozen_of_row _ _ _ _ _ hb⟩ <;> (rw [cell_of_row _ _ _ _ _ _ hb]; rfl)
/-- A cell of a row. -/
theorem row_cell {e : TypeId} {base n : Nat} {v : Value} {xs : List Value} (h : w.ownsRow base e 1 v n xs) {i : Nat} {x : Value} (hi : xs[i]? = some x) : ∃ g c, v = .slice (some ⟨g, 0, none⟩) n c ∧ w.cell? ⟨g, i, none⟩ = some x ∧ n ≤ c := by
  rcases ownsRow_form h with ⟨_, _, rfl⟩ | ⟨g, c, rfl, hn, _⟩
  · simp at hi
  · have := h.cells rfl i x hi
    rw [Addr.add_lit] at this
    exact ⟨g, c, rfl, by simpa using this, hn⟩
theorem row_cell_at {e : TypeId} {base g n n' c : Nat} {xs : List Value} (h : w.ownsRow base e 1 (.slice (some ⟨g, 0, none⟩) n c) n' xs) {i : Nat} {x : Value} (hi : xs[i]? = some x) : w.cell? ⟨g, i, none⟩ = some x := by
  have := h.cells rfl i x hi
  rw [Addr.add_lit] at this
  simpa using this
/-- A store into a row. -/
theorem row_set {e : TypeId} {g n c i : Nat} {xs : List Value} (x : Value) : ∀ F1, (Pc.row e 1 (.slice (some ⟨g, 0, none⟩) n c) n xs).A w F1 → Post (Pc.row e 1 (.slice (some ⟨g, 0, none⟩) n c) n (xs.set i x)) w F1 (w.setCell ⟨g, i, none⟩ x) := by
  rintro F1 ⟨h, rfl⟩
  exact ⟨_, ⟨(h.stored i x).1, rfl⟩, (Mods.refl _ _).setCell (p := ⟨g, i, none⟩) (Or.inl (by simp [Value.ownBlock])) x, fun _ hk => Or.inl hk⟩
end
theorem items_at {w : World} : ∀ {I : List It} {F : List Nat} {i : Nat} {x : It}, (items I).A w F → I[i]? = some x → w.ownsRow 0 5 1 x.v x.bs.length (x.bs.map byteV) ∧ w.ownsRow 0 5 1 x.u x.bs.length (x.bs.map byteV)
  | [], _, _, _, _, h => by simp at h
  | y :: I, F, 0, x, ⟨F1, F2, h1, h2, _, _⟩, h => by
    simp at h
    subst h
    obtain ⟨G1, G2, g1, g2, _, _⟩ := h1
    exact ⟨g1.1, g2.1⟩
  | y :: I, F, i + 1, x, ⟨F1, F2, h1, h2, _, _⟩, h => items_at h2 (by simpa using h)
/-- Rows that bear their mark, not yet grown. -/
def News : List En → Pc
  | [] => Pc.emp
  | e :: N => (Pc.row 5 1 e.v e.n (markL e.n e.m)).star (News N)
theorem news_snoc : ∀ (N : List En) (e : En), Pc.Ent ((Pc.row 5 1 e.v e.n (markL e.n e.m)).star (News N)) (News (N ++ [e]))
  | [], _ => Pc.Ent.refl _
  | _ :: N, e => (Pc.Ent.swap _ _ _).trans ((Pc.Ent.refl _).mono (news_snoc N e))
end Go.Proofs.YtedddekkbgaolaaDoor
