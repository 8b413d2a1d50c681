/- What a relay sends on: refuse, tells. | What of a relay stays when cells of blocks of one type are written; tells, refuse. -/
import Derived.Test.YtlgoeipgmjcboaaGreatDoorJb
import Derived.Deep.MidRow
import Derived.Great.BuildSlice
namespace Go.Proofs.YtlgoeipgmjcboaaGreatDoor
open Go.RowKit Me

namespace Me
theorem step_app {P : Program} {ops : Array Oper} {o : Oper} {a : Act} {w : World} {K : Act → World → Prop} {Q : Exit → Act → World → Prop} {E : Prop} (hgd : o.guard = none) (s x : Operand) (t tx : TypeId)
    (ho : o.op = .call { callee := .builtin .append, args := #[s, x], argTypes := #[t, tx] })
    (base : Nat) (e : TypeId) (i : TypeInfo) (z : Value) (size bytes : Nat) (ht : P.underlying t = some (.slice e)) (hi : P.info? e = some i) (hz : i.zero = some z)
    (hsize : i.size = size) (hby : i.bytes = bytes) (hzs : z.cells.size = size)
    (v : Value) (n : Nat) (xs : List Value) (hs : a.eval s = v) (hown : w.ownsRow base e size v n xs)
    (vx : Value) (m : Nat) (news : List Value) (hx : a.eval x = vx) (hsrc : Src P size tx vx m news w)
    (h63 : n + m ≤ maxLen) (hbytes : (n + m) * bytes ≤ 140737488355328) (hbase : base ≤ w.heap.size)
    (h : ∀ v' w', w'.ownsRow base e size v' (n + m) (xs ++ news) → w.grownBy w' v.ownBlock → (v'.ownBlock = v.ownBlock ∨ v'.ownBlock = some w.heap.size) → K (a.put o.dst v') w') :
    if Region.wanted o (yielded ops a.tmps) = true then Oper.wp P o a w K Q else E := by
  have hw : Region.wanted o (yielded ops a.tmps) = true := by simp [Region.wanted, hgd]
  rw [if_pos hw]
  obtain ⟨v', w', hr, h2, h3, h4⟩ := run_app (P := P) w base t tx o.type e i z size bytes ht hi hz hsize hby hzs v n xs hown vx m news hsrc h63 hbytes hbase
  unfold Oper.wp execOp
  simp only [ho, resolve, invoke, builtin, Sem.run_bind, Sem.run_pure, Result.andThen_ok, List.map_toArray, List.map_cons, List.map_nil, hs, hx, hr]
  exact h v' w' h2 h3 h4
end Me
/-- A message that goes out, and to whom. -/
def outC (n : Int) (m : MsgP) (vn vq vd : Value) : List Value := .int .i64 n :: msgC m vn vq vd
theorem build49 (n : Int) (m : MsgP) (vn vq vd : Value) (w : World) : (Instr.build 49 #[(0, .int .i64 n), (1, .agg (msgC m vn vq vd).toArray)]).run Tryz.prog w = .ok (.agg (outC n m vn vq vd).toArray) w :=
  run_build w 49 _ _ (by kernel_rfl)
theorem load47 {w : World} {b : Nat} {m : MsgP} {vn vq vd : Value} (h : w.heap[b]? = some (.cells (msgC m vn vq vd).toArray 47 (0, 0))) : (Instr.loadAt 47 (.pointer (some ⟨b, 0, none⟩))).run Tryz.prog w = .ok (.agg (msgC m vn vq vd).toArray) w :=
  run_loadAt_mid w b 0 47 (msgC m vn vq vd) _ (fun j v hj => by rw [cell_of_row _ _ _ _ _ _ h]; simpa using hj) Tryz.underlying47 rfl (info47 m vn vq vd)
def nilS : Value := .slice none 0 0
theorem info49 : (Tryz.prog.info? 49).map (fun i => (i.zero, i.size, i.bytes)) = some (some (.agg (outC 0 MsgP.zero nilS nilS nilS).toArray), 37, 352) := by kernel_rfl
theorem fill33 (n : Int) (m : MsgP) (vn vq vd : Value) : Instr.fill (fun i => some (i * 37, 37)) ((Array.range (1 * 37)).map (((Value.agg (outC 0 MsgP.zero nilS nilS nilS).toArray).cells)[· % ((Value.agg (outC 0 MsgP.zero nilS nilS nilS).toArray).cells).size]!)) [(0, .agg (outC n m vn vq vd).toArray)] = some (outC n m vn vq vd).toArray := by kernel_rfl
theorem slice33 (n : Int) (m : MsgP) (vn vq vd : Value) (w : World) : (Instr.buildSlice 33 1 #[(0, .agg (outC n m vn vq vd).toArray)]).run Tryz.prog w = .ok (.slice (some ⟨w.heap.size, 0, none⟩) 1 1) (w.alloc (.cells (outC n m vn vq vd).toArray 49)) := by
  obtain ⟨i1, hi, hz0, hz1, hz2⟩ := info_parts info49
  refine run_buildSlice w 33 49 1 _ _ i1 _ Tryz.underlying33 hi hz0 (by rw [hz1]; decide) (by rw [hz1]; decide) ?_
  rw [hz1]
  exact fill33 n m vn vq vd
structure OutV where
  c : Int
  m : MsgP
  vn : Value
  vq : Value
  vd : Value
namespace OutV
def cells (o : OutV) : List Value := outC o.c o.m o.vn o.vq o.vd
def blocks (o : OutV) : List Nat := o.vn.ownBlock.toList ++ o.vq.ownBlock.toList ++ o.vd.ownBlock.toList
def plain (o : OutV) : Int × MsgP := (o.c, o.m)
end OutV
/-- The messages that go out: a row, their lists, all of them apart, made since base. -/
structure OutsR (w : World) (base : Nat) (vo : Value) (L : List OutV) : Prop where
  row : w.ownsRow base 49 37 vo L.length (L.flatMap OutV.cells)
  own : ∀ o ∈ L, OwnM w base o.m o.vn o.vq o.vd
  apart : L.Pairwise fun o p => ∀ k ∈ o.blocks, k ∉ p.blocks
def outB (vo : Value) (L : List OutV) : List Nat := vo.ownBlock.toList ++ L.flatMap OutV.blocks
theorem OwnM.modsX {w w' : World} {base : Nat} {m : MsgP} {vn vq vd : Value} {X : List Nat} (h : OwnM w base m vn vq vd) (hm : Mods X w w') (hX : ∀ k ∈ vn.ownBlock.toList ++ vq.ownBlock.toList ++ vd.ownBlock.toList, k ∉ X) : OwnM w' base m vn vq vd :=
  ⟨ownsRow_mods h.names hm (fun k hk => hX k (by simp [hk])), ownsRow_mods h.qids hm (fun k hk => hX k (by simp [hk])), ownsRow_mods h.data hm (fun k hk => hX k (by simp [hk]))⟩
theorem OwnM.lt {w : World} {base : Nat} {m : MsgP} {vn vq vd : Value} (h : OwnM w base m vn vq vd) : ∀ k ∈ vn.ownBlock.toList ++ vq.ownBlock.toList ++ vd.ownBlock.toList, base ≤ k ∧ k < w.heap.size := by
  intro k hk
  simp only [List.mem_append, Option.mem_toList] at hk
  rcases hk with (hk | hk) | hk
  · exact h.names.lt k hk
  · exact h.qids.lt k hk
  · exact h.data.lt k hk
theorem OwnM.ne49 {w : World} {base base' : Nat} {m : MsgP} {vn vq vd vo : Value} {n : Nat} {xs : List Value} (h : OwnM w base m vn vq vd) (ho : w.ownsRow base' 49 37 vo n xs) : ∀ k ∈ vn.ownBlock.toList ++ vq.ownBlock.toList ++ vd.ownBlock.toList, vo.ownBlock ≠ some k := by
  intro k hk
  simp only [List.mem_append, Option.mem_toList] at hk
  rcases hk with (hk | hk) | hk
  · exact fun e => ownsRow_kind ho h.names (by decide) k e hk
  · exact fun e => ownsRow_kind ho h.qids (by decide) k e hk
  · exact fun e => ownsRow_kind ho h.data (by decide) k e hk
/-- The relay R as it stands in the course of a call that began at w0, of blocks F0: L has come out; the blocks K are kept. -/
structure St (w0 : World) (F0 K : List Nat) (r : Nat) (R : RelP) (U : Nat → Nat) (G : Gh) (L : List OutV) (w : World) : Prop where
  ex : ∃ vo, IsRel w r R U G vo ∧ OutsR w w0.heap.size vo L ∧ (∀ k ∈ G.F, k ∉ outB vo L) ∧ (∀ k ∈ K, k < w.heap.size ∧ k ∉ G.F ∧ k ∉ outB vo L)
  mods : Mods F0 w0 w
  sub : ∀ k ∈ G.F, k ∈ F0 ∨ w0.heap.size ≤ k
theorem outB_mem {vo : Value} {L : List OutV} {k : Nat} : k ∈ outB vo L ↔ vo.ownBlock = some k ∨ ∃ o ∈ L, k ∈ o.blocks := by
  simp [outB]
theorem OutsR.lt {w : World} {base : Nat} {vo : Value} {L : List OutV} (h : OutsR w base vo L) : ∀ k ∈ outB vo L, base ≤ k ∧ k < w.heap.size := by
  intro k hk
  rcases outB_mem.1 hk with hk | ⟨o, ho, hk⟩
  · exact h.row.lt k hk
  · exact (h.own o ho).lt k hk
theorem OutsR.modsX {w w' : World} {base : Nat} {vo : Value} {L : List OutV} {X : List Nat} (h : OutsR w base vo L) (hm : Mods X w w') (hX : ∀ k ∈ outB vo L, k ∉ X) : OutsR w' base vo L :=
  ⟨ownsRow_mods h.row hm (fun k hk => hX k (outB_mem.2 (Or.inl hk))), fun o ho => (h.own o ho).modsX hm (fun k hk => hX k (outB_mem.2 (Or.inr ⟨o, ho, hk⟩))), h.apart⟩
section
variable {w0 w w' : World} {F0 K : List Nat} {r : Nat} {R : RelP} {U : Nat → Nat} {G : Gh} {L : List OutV}
/-- Nothing old has changed. -/
theorem St.still (h : St w0 F0 K r R U G L w) (hm : Mods [] w w') : St w0 F0 K r R U G L w' := by
  obtain ⟨vo, h1, h2, h3, h4⟩ := h.ex
  exact ⟨⟨vo, h1.still hm, h2.modsX hm (by simp), h3, fun k hk => ⟨Nat.lt_of_lt_of_le (h4 k hk).1 hm.size, (h4 k hk).2⟩⟩, h.mods.trans hm (by simp), h.sub⟩
theorem St.alloc (h : St w0 F0 K r R U G L w) (o : Obj) : St w0 F0 (w.heap.size :: K) r R U G L (w.alloc o) := by
  obtain ⟨vo, h1, h2, h3, h4⟩ := h.ex
  have hm := (Mods.refl [] w).alloc o
  refine ⟨⟨vo, h1.still hm, h2.modsX hm (by simp), h3, fun k hk => ?_⟩, h.mods.trans hm (by simp), h.sub⟩
  rcases List.mem_cons.1 hk with rfl | hk
  · refine ⟨by simp, fun hk' => ?_, fun hk' => ?_⟩
    · have := h1.lt _ hk'
      omega
    · have := (h2.lt _ hk').2
      omega
  · exact ⟨Nat.lt_of_lt_of_le (h4 k hk).1 hm.size, (h4 k hk).2⟩
theorem St.drew (h : St w0 F0 K r R U G L w) : St w0 F0 K r R U G L w.drew := h.still (Mods.refl [] w).drew
end
end Go.Proofs.YtlgoeipgmjcboaaGreatDoor
namespace Go.Proofs.YtlgoeipgmjcboaaGreatDoor
open Go.RowKit Me

/-- Of the blocks F all stay but those of type T. -/
structure KeepC (T : TypeId) (F : List Nat) (w w' : World) : Prop where
  size : w.heap.size ≤ w'.heap.size
  cells : ∀ b cs t fr, b ∈ F → t ≠ T → w.heap[b]? = some (.cells cs t fr) → w'.heap[b]? = some (.cells cs t fr)
theorem KeepC.trans {T : TypeId} {F : List Nat} {w w1 w2 : World} (h : KeepC T F w w1) (k : KeepC T F w1 w2) : KeepC T F w w2 :=
  ⟨Nat.le_trans h.size k.size, fun b cs t fr hb ht e => k.cells b cs t fr hb ht (h.cells b cs t fr hb ht e)⟩
theorem KeepC.refl (T : TypeId) (F : List Nat) (w : World) : KeepC T F w w := ⟨Nat.le_refl _, fun _ _ _ _ _ _ h => h⟩
/-- A map is written. -/
theorem KeepC.map {T : TypeId} {F : List Nat} {w w' : World} {x : Nat} {es : Array MapEntry} {c : Nat} (h : w.heap[x]? = some (.map es c)) (hm : Mods [x] w w') : KeepC T F w w' :=
  ⟨hm.size, fun b cs t fr _ _ hb => hm.heap hb (fun e => by
    simp at e
    rw [e, h] at hb
    cases hb)⟩
structure KeepT (T : TypeId) (F : List Nat) (w w' : World) : Prop extends KeepC T F w w' where
  maps : ∀ b es c, b ∈ F → w.heap[b]? = some (.map es c) → w'.heap[b]? = some (.map es c)
theorem KeepT.set {T : TypeId} {F : List Nat} {w : World} {x i : Nat} {v : Value} {cs : Array Value} {fr : Nat × Nat} (h : w.heap[x]? = some (.cells cs T fr)) : KeepT T F w (w.setCell ⟨x, i, none⟩ v) where
  size := by simp
  cells := fun b cs' t fr' _ ht hb => by
    rw [heap_setCell_other _ _ _ _ (fun e => by
      rw [show b = x from e, h] at hb
      cases hb
      exact ht rfl)]
    exact hb
  maps := fun b es c _ hb => by
    rw [heap_setCell_other _ _ _ _ (fun e => by
      rw [show b = x from e, h] at hb
      cases hb)]
    exact hb
theorem KeepT.trans {T : TypeId} {F : List Nat} {w w1 w2 : World} (h : KeepT T F w w1) (k : KeepT T F w1 w2) : KeepT T F w w2 :=
  ⟨h.toKeepC.trans k.toKeepC, fun b es c hb e => k.maps b es c hb (h.maps b es c hb e)⟩
section
variable {T : TypeId} {w w' : World} {r : Nat} {R : RelP} {U : Nat → Nat} {G : Gh} {vo : Value}
theorem PMap.keepT {P : Program} {k : TypeId} {α : Type} {K : KB P k α} {b : Nat} {M : List (α × Nat)} {F : List Nat} (h : PMap K w b M) (hb : b ∈ F) (hk : KeepT T F w w') : PMap K w' b M := by
  obtain ⟨D, ⟨es, clock, h1, F', h2⟩, h3⟩ := h
  exact ⟨D, ⟨es, clock, hk.maps b es clock hb h1, F', h2⟩, h3⟩
theorem IsCli.keepT {F : List Nat} {b : Nat} {c : CliP} (h : IsCli w F b c) (hk : KeepC T F w w') (h1 : (85 : TypeId) ≠ T) (h2 : (47 : TypeId) ≠ T) : IsCli w' F b c := by
  obtain ⟨hb, p, e1, e2, e3⟩ := h
  refine ⟨hb, p, hk.cells _ _ _ _ hb h1 e1, e2, fun he hw => ?_⟩
  obtain ⟨g, m, vn, vq, vd, f1, f2, f3, f4⟩ := e3 he hw
  exact ⟨g, m, vn, vq, vd, f1, f2, hk.cells _ _ _ _ f2 h2 f3, f4⟩
theorem LRow.keepT {v : Value} {l : List Nat} (h : LRow w G v l) (hk : KeepC T G.F w w') (h1 : (146 : TypeId) ≠ T) : LRow w' G v l := by
  obtain ⟨A, c, e, g1, g2, g3, g4⟩ := h
  exact ⟨A, c, e, g1, g2, g3.imp id (fun ⟨g, cur, e1, e2, e3, e4⟩ => ⟨g, cur, e1, e2, hk.cells _ _ _ _ e2 h1 e3, e4⟩), g4⟩
theorem IsThen.keepT {q : ReqP} {v : Value} (h : IsThen w r G R q v) (hk : KeepC T G.F w w') (h1 : (146 : TypeId) ≠ T) (h2 : (24 : TypeId) ≠ T) (h3 : (109 : TypeId) ≠ T) (h4 : (36 : TypeId) ≠ T) (h5 : (112 : TypeId) ≠ T) (h6 : (3 : TypeId) ≠ T) (h7 : (115 : TypeId) ≠ T) : IsThen w' r G R q v := by
  rcases h with ⟨k, c1, c2, e, f1, f2, g1, g2, f3, ⟨cs', t, g3, g4⟩, g5⟩ | ⟨k, c1, c2, c3, c4, vu', e, f1, f2, f3, f4, g1, g2, g3, g4, g5⟩
  · exact Or.inl ⟨k, c1, c2, e, f1, f2, hk.cells _ _ _ _ f1 h2 g1, hk.cells _ _ _ _ f2 h3 g2, f3, ⟨cs', t, hk.cells _ _ _ _ f3 h7 g3, g4⟩, g5⟩
  · exact Or.inr ⟨k, c1, c2, c3, c4, vu', e, f1, f2, f3, f4, hk.cells _ _ _ _ f1 h4 g1, hk.cells _ _ _ _ f2 h5 g2, g3.keepT hk h1, hk.cells _ _ _ _ f3 h1 g4, hk.cells _ _ _ _ f4 h6 g5⟩
theorem IsReq.keepT {q : ReqP} (h : IsReq w r G R q) (hk : KeepC T G.F w w') (h1 : (146 : TypeId) ≠ T) (h2 : (24 : TypeId) ≠ T) (h3 : (109 : TypeId) ≠ T) (h4 : (36 : TypeId) ≠ T) (h5 : (112 : TypeId) ≠ T) (h6 : (3 : TypeId) ≠ T) (h7 : (115 : TypeId) ≠ T) : IsReq w' r G R q := by
  obtain ⟨hb, cs, vu, vt, e1, e2, e3, e4, e5, e6, e7, e8, e9, e10, e11, e12⟩ := h
  exact ⟨hb, cs, vu, vt, hk.cells _ _ _ _ hb h7 e1, e2, e3, e4, e5, e6, e7, e8, e9, e10, e11.keepT hk h1, e12.keepT hk h1 h2 h3 h4 h5 h6 h7⟩
/-- What goes out lies elsewhere now. -/
theorem IsRel.setOut (h : IsRel w r R U G vo) (v : Value) : IsRel (w.setCell ⟨r, 6, none⟩ v) r R U G v := by
  have hk : KeepT 81 G.F w (w.setCell ⟨r, 6, none⟩ v) := KeepT.set h.cells
  refine ⟨h.wf, h.here, fun k hk' => Nat.lt_of_lt_of_le (h.lt k hk') hk.size, ?_, ⟨h.row.1, h.row.2.1, ?_⟩, fun i c hc => (h.cli i c hc).keepT hk.toKeepC (by decide) (by decide), h.cbi, PMap.keepT h.links h.here.2.2.1 hk, fun l hl => ⟨(h.link l hl).1, hk.cells _ _ _ _ (h.link l hl).1 (by decide) (h.link l hl).2⟩, h.lbi, PMap.keepT h.under h.here.2.2.2 hk,
    fun q hq => (h.req q hq).keepT hk.toKeepC (by decide) (by decide) (by decide) (by decide) (by decide) (by decide) (by decide), h.rbi, h.apart⟩
  · exact heap_setCell_same _ _ _ _ _ _ h.cells
  · obtain ⟨cur, h1, h2⟩ := h.row.2.2
    exact ⟨cur, hk.cells _ _ _ _ h.here.2.1 (by decide) h1, h2⟩
end
/-- One message more has come out. -/
theorem St.out {w0 w2 w3 : World} {F0 K : List Nat} {r : Nat} {R : RelP} {U : Nat → Nat} {G : Gh} {L : List OutV} {vo vo' : Value} {b2 : Nat} {o : OutV}
    (hrel : IsRel w2 r R U G vo) (ho : OutsR w2 w0.heap.size vo L) (h3 : ∀ k ∈ G.F, k ∉ outB vo L) (h4 : ∀ k ∈ K, k < w2.heap.size ∧ k ∉ G.F ∧ k ∉ outB vo L) (hm : Mods F0 w0 w2) (hs : ∀ k ∈ G.F, k ∈ F0 ∨ w0.heap.size ≤ k)
    (hn : OwnM w2 b2 o.m o.vn o.vq o.vd) (hb2 : w0.heap.size ≤ b2) (hb3 : b2 ≤ w2.heap.size) (hlt : ∀ k, k ∈ G.F ∨ k ∈ K ∨ k ∈ outB vo L → k < b2)
    (hown : w3.ownsRow w0.heap.size 49 37 vo' (L.length + 1) (L.flatMap OutV.cells ++ o.cells)) (hgrow : w2.grownBy w3 vo.ownBlock) (hat : vo'.ownBlock = vo.ownBlock ∨ vo'.ownBlock = some w2.heap.size) :
    St w0 F0 K r R U G (L ++ [o]) (w3.setCell ⟨r, 6, none⟩ vo') ∧ ∀ k ∈ K, (w3.setCell ⟨r, 6, none⟩ vo').heap[k]? = w2.heap[k]? := by
  have hg : Mods vo.ownBlock.toList w2 w3 := (Mods.refl _ w2).grown hgrow (fun b hb => Or.inl (by simp [hb]))
  have hrel3 : IsRel w3 r R U G vo := hrel.mods hg (fun k hk hk' => h3 k hk (outB_mem.2 (Or.inl (by simpa using hk'))))
  have hlist : ∀ p ∈ L ++ [o], (∀ k ∈ p.blocks, vo.ownBlock ≠ some k) := by
    intro p hp
    rcases List.mem_append.1 hp with hp | hp
    · exact (ho.own p hp).ne49 ho.row
    · simp at hp
      subst hp
      exact hn.ne49 ho.row
  have hsz := hg.size
  have hr := hrel.here.1
  have hrb : ∀ p ∈ L ++ [o], ∀ k ∈ p.blocks, k ≠ r := by
    intro p hp k hk e
    rcases List.mem_append.1 hp with hp | hp
    · exact h3 r hr (outB_mem.2 (Or.inr ⟨p, hp, e ▸ hk⟩))
    · simp at hp
      subst hp
      have := (hn.lt k hk).1
      have := hlt r (Or.inl hr)
      omega
  have hvr : vo'.ownBlock ≠ some r := by
    rcases hat with e | e
    · rw [e]
      exact fun e' => h3 r hr (outB_mem.2 (Or.inl e'))
    · rw [e]
      intro e'
      have := hrel.lt r hr
      simp at e'
      omega
  have hm4 : Mods [r] w3 (w3.setCell ⟨r, 6, none⟩ vo') := (Mods.refl [r] w3).setCell (p := ⟨r, 6, none⟩) (Or.inl (by simp)) vo'
  have hnew : ∀ k, k ∈ outB vo' (L ++ [o]) → k ∈ outB vo L ∨ b2 ≤ k := by
    intro k hk
    rcases outB_mem.1 hk with hk1 | ⟨p, hp, hk1⟩
    · rcases hat with e | e
      · exact Or.inl (outB_mem.2 (Or.inl (e ▸ hk1)))
      · rw [e] at hk1
        have : w2.heap.size = k := by simpa using hk1
        exact Or.inr (by omega)
    · rcases List.mem_append.1 hp with hp | hp
      · exact Or.inl (outB_mem.2 (Or.inr ⟨p, hp, hk1⟩))
      · have e : p = o := by simpa using hp
        subst e
        exact Or.inr (hn.lt k hk1).1
  have hbt : ∀ {p : OutV}, p ∈ L ++ [o] → ∀ k ∈ p.blocks, k ∉ vo.ownBlock.toList := fun hp k hk hk' => hlist _ hp k hk (by simpa using hk')
  refine ⟨⟨⟨vo', hrel3.setOut vo', ⟨?_, ?_, ?_⟩, ?_, ?_⟩, ?_, hs⟩, ?_⟩
  · rw [List.length_append, List.flatMap_append]
    simp only [List.length_cons, List.length_nil, List.flatMap_cons, List.flatMap_nil, List.append_nil, Nat.zero_add]
    exact ownsRow_mods hown hm4 (fun k hk hk' => hvr (by simp at hk'; rw [hk, hk']))
  · intro p hp
    have hp' := hp
    rcases List.mem_append.1 hp with hp | hp
    · exact ((ho.own p hp).modsX hg (hbt hp')).modsX hm4 (fun k hk hk' => hrb p hp' k hk (by simpa using hk'))
    · have e : p = o := by simpa using hp
      subst e
      have h5 := (hn.modsX hg (hbt hp')).modsX hm4 (fun k hk hk' => hrb p hp' k hk (by simpa using hk'))
      exact ⟨ownsRow_base h5.names hb2, ownsRow_base h5.qids hb2, ownsRow_base h5.data hb2⟩
  · rw [List.pairwise_append]
    refine ⟨ho.apart, List.pairwise_singleton _ _, fun p hp q hq k hk hk' => ?_⟩
    have e : q = o := by simpa using hq
    subst e
    have h5 := hlt k (Or.inr (Or.inr (outB_mem.2 (Or.inr ⟨p, hp, hk⟩))))
    have h6 := (hn.lt k hk').1
    omega
  · intro k hk hk'
    rcases hnew k hk' with h5 | h5
    · exact h3 k hk h5
    · have := hlt k (Or.inl hk)
      omega
  · intro k hk
    refine ⟨by simp; exact Nat.lt_of_lt_of_le (h4 k hk).1 hsz, (h4 k hk).2.1, fun hk' => ?_⟩
    rcases hnew k hk' with h5 | h5
    · exact (h4 k hk).2.2 h5
    · have := hlt k (Or.inr (Or.inl hk))
      omega
  · refine (hm.trans hg (fun b hb => Or.inr (ho.row.lt b (by simpa using hb)).1)).trans hm4 (fun b hb => ?_)
    simp at hb
    subst hb
    exact hs _ hr
  · intro k hk
    have h5 := h4 k hk
    rw [hm4.block k (Nat.lt_of_lt_of_le h5.1 hsz) (fun e => h5.2.1 (by simp at e; rw [e]; exact hr)), hg.block k h5.1 (fun e => h5.2.2 (outB_mem.2 (Or.inl (by simpa using e))))]
end Go.Proofs.YtlgoeipgmjcboaaGreatDoor
