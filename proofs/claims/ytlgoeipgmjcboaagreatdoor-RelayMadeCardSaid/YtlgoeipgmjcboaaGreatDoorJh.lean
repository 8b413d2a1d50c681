/- over: a request is under way no more. | prune: links that are neither real nor used go. -/
import Derived.Test.YtlgoeipgmjcboaaGreatDoorJd
import Derived.Deep.RegionHeld3
namespace Go.Proofs.YtlgoeipgmjcboaaGreatDoor
open Go.RowKit Me

namespace Me
section
variable {P : Program} {k : TypeId} {α : Type} {K : KB P k α} (w : World) {ops : Array Oper} {o : Oper} {a : Act} {Kk : Act → World → Prop} {Q : Exit → Act → World → Prop} {E : Prop}
/-- 'delete(m, k)', of a key that is there, in a region that draws. -/
theorem step_del_pm [DecidableEq α] (hg : o.guard = none) (m x : Operand) (t : TypeId) (hop : o.op = Op.call { callee := Callee.builtin Builtin.delete, args := #[m, x], argTypes := #[t, k] }) (e : TypeId) (ht : P.underlying t = some (.map k e)) (b : Nat) (M : List (α × Nat)) (hm : a.eval m = .map (some b))
    (h : PMap K w b M) (y : α) (hx : a.eval x = K.val y) (c : Nat) (hy : (y, c) ∈ M)
    (hK : ∀ w', PMap K w' b (M.filter fun e => decide (e.1 ≠ y)) → Mods [b] w w' → w'.heap.size = w.heap.size → Kk (a.put o.dst (.tuple #[])) w') : if Region.wanted o (yielded ops a.tmps) = true then Oper.wp P o a w Kk Q else E := by
  rw [if_pos (by simp [Region.wanted, hg])]
  obtain ⟨D, h1, h2⟩ := h
  have hok := h2.ok _ hy
  obtain ⟨w', hrun, g1, g2⟩ := h1.drop K.keyed ht (K.key y hok) o.type
  unfold Oper.wp
  simp [execOp, hop, resolve, invoke, builtin, hm, hx, hrun, Result.andThen]
  refine hK w' (PMap.of g1 (h2.del (h1.tidy K.keyed) y hok c hy)) (mods_grown g2.grown) ?_
  obtain ⟨_, _, _, _, _, rfl⟩ := g2
  simp [Go.ChangeMaps.setBlock]
/-- 'm[k] = p', of a new key, in a region that draws. -/
theorem step_put_pm (hg : o.guard = none) (m x v : Operand) (t : TypeId) (hop : o.op = Op.mapUpdate t m x v) (e : TypeId) (ht : P.underlying t = some (.map k e)) (b : Nat) (M : List (α × Nat)) (hm : a.eval m = .map (some b))
    (h : PMap K w b M) (hn : M.length < maxLen) (y : α) (hy : K.ok y) (hx : a.eval x = K.val y) (hnew : ∀ e ∈ M, e.1 ≠ y) (c : Nat) (hv : a.eval v = .pointer (some ⟨c, 0, none⟩))
    (hK : ∀ w', PMap K w' b (M ++ [(y, c)]) → Mods [b] w w' → w'.heap.size = w.heap.size → Kk (a.put o.dst undef) w') : if Region.wanted o (yielded ops a.tmps) = true then Oper.wp P o a w Kk Q else E := by
  rw [if_pos (by simp [Region.wanted, hg])]
  obtain ⟨D, h1, h2⟩ := h
  obtain ⟨w', hrun, g1, g2⟩ := h1.store K.keyed ht hn (K.key y hy) (ptR_mk (some c))
  unfold Oper.wp
  simp only [ptV] at hrun
  simp [execOp, hop, hm, hx, hv, hrun, Result.andThen]
  refine hK w' (PMap.of g1 (h2.put (h1.tidy K.keyed) y hy hnew c)) (mods_grown g2.grown) ?_
  obtain ⟨_, _, _, _, _, rfl⟩ := g2
  simp [Go.ChangeMaps.setBlock]
end
end Me
section
variable {w w' : World} {r : Nat} {R : RelP} {U : Nat → Nat} {G : Gh} {vo : Value}
theorem em_id (hw : R.Wf) {q p : ReqP} (hq : q ∈ R.reqs) (hp : p ∈ R.reqs) (h : p.id = q.id) : p = q := by
  have h1 := find_unique (p := fun x : ReqP => x.id == q.id) hw.reqs hq (by simp) (fun y _ z _ hy hz hP => hP.1 (by simp at hy hz; rw [hy, hz]))
  have h2 := find_unique (p := fun x : ReqP => x.id == q.id) hw.reqs hp (by simpa using h) (fun y _ z _ hy hz hP => hP.1 (by simp at hy hz; rw [hy, hz]))
  rw [h1] at h2
  exact (Option.some.inj h2).symm
theorem RelP.Wf.without (h : R.Wf) (id : Nat) : (R.without id).Wf :=
  ⟨h.msize, h.fids, h.tags, h.many, h.cli, h.link, h.links, fun q hq => h.req q (List.mem_filter.1 hq).1, h.reqs.filter _, fun q hq => h.names q (List.mem_filter.1 hq).1⟩
theorem IsThen.sub {R' : RelP} {q : ReqP} {v : Value} (h : IsThen w r G R q v) (hs : ∀ p ∈ R'.reqs, p ∈ R.reqs) : IsThen w r G R' q v := by
  rcases h with ⟨k, c1, c2, e, f1, f2, g1, g2, f3, ⟨cs', t, g3, g4, g5, g6⟩, g7⟩ | h
  · exact Or.inl ⟨k, c1, c2, e, f1, f2, g1, g2, f3, ⟨cs', t, g3, g4, g5, fun p hp => g6 p (hs p hp)⟩, fun p hp => g7 p (hs p hp)⟩
  · exact Or.inr h
theorem IsReq.sub {R' : RelP} {q : ReqP} (h : IsReq w r G R q) (hs : ∀ p ∈ R'.reqs, p ∈ R.reqs) : IsReq w r G R' q := by
  obtain ⟨hb, cs, vu, vt, e1, e2, e3, e4, e5, e6, e7, e8, e9, e10, e11, e12⟩ := h
  exact ⟨hb, cs, vu, vt, e1, e2, e3, e4, e5, e6, e7, e8, e9, e10, e11, e12.sub hs⟩
theorem reqM_without (hw : R.Wf) {q : ReqP} (hq : q ∈ R.reqs) : (reqM R G).filter (fun e => decide (e.1 ≠ q.num)) = reqM (R.without q.id) G := by
  unfold reqM RelP.without
  rw [List.filter_map]
  congr 1
  refine List.filter_congr fun p hp => ?_
  by_cases e : p.num = q.num
  · obtain rfl := em_pair hw hq hp e
    simp
  · have : p.id ≠ q.id := fun e2 => e (by rw [em_id hw hq hp e2])
    simp [e, this]
/-- The map of requests has lost one. -/
theorem IsRel.del (h : IsRel w r R U G vo) {q : ReqP} (hq : q ∈ R.reqs) (hm : Mods [G.ub] w w') (hM : PMap KU w' G.ub ((reqM R G).filter fun e => decide (e.1 ≠ q.num))) : IsRel w' r (R.without q.id) U G vo ∧ KeepC 148 G.F w w' := by
  obtain ⟨es, cl, hub⟩ : ∃ es c, w.heap[G.ub]? = some (.map es c) := by
    obtain ⟨D, ⟨es, clock, h1, _⟩, _⟩ := h.under
    exact ⟨es, clock, h1⟩
  have hc : ∀ T, KeepC T G.F w w' := fun T => KeepC.map hub hm
  have hmb := h.apart
  rw [reqM_without h.wf hq] at hM
  have hs : ∀ p ∈ (R.without q.id).reqs, p ∈ R.reqs := fun p hp => (List.mem_filter.1 hp).1
  refine ⟨⟨h.wf.without q.id, h.here, fun k hk => Nat.lt_of_lt_of_le (h.lt k hk) hm.size, (hc 0).cells _ _ _ _ h.here.1 (by decide) h.cells, ⟨h.row.1, h.row.2.1, ?_⟩, fun i c hi => (h.cli i c hi).keepT (hc 0) (by decide) (by decide), h.cbi, h.links.mods hm (by simpa using hmb),
    fun l hl => ⟨(h.link l hl).1, (hc 0).cells _ _ _ _ (h.link l hl).1 (by decide) (h.link l hl).2⟩, h.lbi, hM, fun p hp => ((h.req p (hs p hp)).keepT (hc 0) (by decide) (by decide) (by decide) (by decide) (by decide) (by decide) (by decide)).sub hs, fun p hp p' hp' => h.rbi p (hs p hp) p' (hs p' hp'), h.apart⟩, hc 148⟩
  obtain ⟨cur, h1, h2⟩ := h.row.2.2
  exact ⟨cur, (hc 0).cells _ _ _ _ h.here.2.1 (by decide) h1, h2⟩
/-- A link is used otherwise. -/
theorem IsRel.setUsed (h : IsRel w r R U G vo) {l : LinkP} (hl : l ∈ R.links) (v : Nat) : IsRel (w.setCell ⟨G.lb l.id, 2, none⟩ (.int .i64 (v : Int))) r R (fun i => if i = l.id then v else U i) G vo ∧ KeepC 148 G.F w (w.setCell ⟨G.lb l.id, 2, none⟩ (.int .i64 (v : Int))) := by
  have hk : KeepT 148 G.F w (w.setCell ⟨G.lb l.id, 2, none⟩ (.int .i64 (v : Int))) := KeepT.set (h.link l hl).2
  refine ⟨⟨h.wf, h.here, fun k hk' => Nat.lt_of_lt_of_le (h.lt k hk') hk.size, hk.cells _ _ _ _ h.here.1 (by decide) h.cells, ⟨h.row.1, h.row.2.1, ?_⟩, fun i c hc => (h.cli i c hc).keepT hk.toKeepC (by decide) (by decide), h.cbi, PMap.keepT h.links h.here.2.2.1 hk, fun p hp => ⟨(h.link p hp).1, ?_⟩, h.lbi, PMap.keepT h.under h.here.2.2.2 hk,
    fun q hq => (h.req q hq).keepT hk.toKeepC (by decide) (by decide) (by decide) (by decide) (by decide) (by decide) (by decide), h.rbi, h.apart⟩, hk.toKeepC⟩
  · obtain ⟨cur, h1, h2⟩ := h.row.2.2
    exact ⟨cur, hk.cells _ _ _ _ h.here.2.1 (by decide) h1, h2⟩
  · by_cases e : p.id = l.id
    · have hp2 := (h.link p hp).2
      have e2 := heap_setCell_same w (G.lb l.id) 2 _ 148 (.int .i64 (v : Int)) (e ▸ hp2)
      rw [if_pos e, e]
      exact e2
    · rw [if_neg e, heap_setCell_other _ _ _ _ (fun e' => e (h.lbi p hp l hl e'))]
      exact (h.link p hp).2
theorem IsRel.used_eq {U' : Nat → Nat} (h : IsRel w r R U G vo) (he : ∀ l ∈ R.links, U' l.id = U l.id) : IsRel w r R U' G vo :=
  ⟨h.wf, h.here, h.lt, h.cells, h.row, h.cli, h.cbi, h.links, fun l hl => ⟨(h.link l hl).1, by rw [he l hl]; exact (h.link l hl).2⟩, h.lbi, h.under, h.req, h.rbi, h.apart⟩
theorem LRow.at {v : Value} {l : List Nat} (h : LRow w G v l) {A : Option Addr} {n c : Nat} (e : v = .slice A n c) {j i : Nat} (hj : l[j]? = some i) : ∃ g, A = some ⟨g, 0, none⟩ ∧ w.cell? ⟨g, j, none⟩ = some (.pointer (some ⟨G.lb i, 0, none⟩)) := by
  obtain ⟨A', c', e', -, -, h3, -⟩ := h
  rw [e] at e'
  obtain rfl := (Value.slice.inj e').1
  rcases h3 with h3 | ⟨g, cur, e1, _, e2, e3⟩
  · rw [h3] at hj
    simp at hj
  · exact ⟨g, e1, by rw [cell_of_row _ _ _ _ _ _ e2]; exact e3 j i hj⟩
theorem link_cell (h : IsRel w r R U G vo) {l : LinkP} (hl : l ∈ R.links) (j : Nat) : w.cell? ⟨G.lb l.id, j, none⟩ = (#[.int .u32 (l.num : Int), .bool l.real, .int .i64 (U l.id : Int)] : Array Value)[j]? := by
  rw [cell_of_row _ _ _ _ _ _ (h.link l hl).2]
theorem count_take_succ {l : List Nat} {k i : Nat} (h : l[k]? = some i) (j : Nat) : (l.take (k + 1)).count j = (l.take k).count j + if j = i then 1 else 0 := by
  rw [List.take_add_one, h, List.count_append]
  by_cases e : j = i
  · subst e
    simp
  · have e' : ¬ i = j := fun x => e x.symm
    simp [e, e']
theorem count_take_le (l : List Nat) (k i : Nat) : (l.take k).count i ≤ l.count i := (List.take_sublist k l).count_le i
set_option maxHeartbeats 1000000 in
theorem over_any (h : IsRel w r R U G vo) {q : ReqP} (hq : q ∈ R.reqs) (hU : ∀ i, q.uses.count i ≤ U i ∧ U i ≤ 1000) :
    Calls Tryz.prog 43 #[.pointer (some ⟨r, 0, none⟩), .pointer (some ⟨G.rb q.id, 0, none⟩)] w fun e w' => e = .returned (.tuple #[]) ∧ IsRel w' r (R.without q.id) (fun i => U i - q.uses.count i) G vo ∧ KeepC 148 G.F w w' ∧ Mods G.F w w' := by
  have hd := h.still (Mods.refl [] w).drew
  have H := Lib.hid hd
  have HQ := Lib.hid hq
  have c5 : w.drew.cell? ⟨r, 5, none⟩ = some (.map (some G.ub)) := hd.cell 5
  obtain ⟨hF, cs, vu, vt, g0, g1, -, g3, -, -, -, -, g40, -, g11, -⟩ := hd.req q hq
  have d1 : w.drew.cell? ⟨G.rb q.id, 1, none⟩ = some (.int .u16 (q.num : Int)) := by rw [cell_of_row _ _ _ _ _ _ g0]; exact g3
  have HM : Hid (PMap KU w.drew G.ub (reqM R G)) := Lib.hid hd.under
  have HIN : Hid ((q.num, G.rb q.id) ∈ reqM R G) := Lib.hid (List.mem_map.2 ⟨q, hq, rfl⟩)
  have HU := Lib.hid hU
  have HG0 := Lib.hid g0
  have HG40 := Lib.hid g40
  have g3' := g3
  have HLR := Lib.hid g11
  obtain ⟨A, c, hvu, -⟩ := id g11
  have hlen := (h.wf.req q hq).2.2.2.2.2.2.2.2.2.2
  clear h hd hq hU g0 g1 g3 g40 g11
  go_enter Tryz.func43, Tryz.ntmps43
  go_wp2_with fail
  go_region_held3 (fun W => W.cell? ⟨r, 5, none⟩ = some (.map (some G.ub)) ∧ W.cell? ⟨G.rb q.id, 1, none⟩ = some (.int .u16 (q.num : Int))) (go_keep) (first | (refine step_del_pm _ rfl _ _ 78 rfl 109 Tryz.underlying78 G.ub (reqM R G) rfl HM.out q.num rfl (G.rb q.id) HIN.out ?_; intro w1 hM1 hm1 hs1; have hh := H.out.del HQ.out hm1 hM1; have H1 := Lib.hid hh.1; have K1 := Lib.hid hh.2; have c5' : w1.cell? ⟨r, 5, none⟩ = some (.map (some G.ub)) := hh.1.cell 5; have d1' : w1.cell? ⟨G.rb q.id, 1, none⟩ = some (.int .u16 (q.num : Int)) := (by rw [cell_of_row _ _ _ _ _ _ (hh.2.cells _ _ _ _ hF (by decide) HG0.out)]; exact g3'); have HMM := Lib.hid (hm1.mono (G := G.F) (fun b hb => Or.inl (by simp at hb; subst hb; exact H.out.here.2.2.2))); clear hM1 hm1 hs1 hh; go_simp))
  subst hvu
  have e40 : w1.cell? ⟨G.rb q.id, 40, none⟩ = some (.slice A q.uses.length c) := by rw [cell_of_row _ _ _ _ _ _ (K1.out.cells _ _ _ _ hF (by decide) HG0.out)]; exact HG40.out
  have HL1 := Lib.hid (HLR.out.keepT K1.out (by decide))
  clear c5 d1 c5' d1' HM HIN HG0 HG40 HLR g3'
  go_wp2_with fail
  go_loopw [20] (fun i wr => ∃ k : Nat, k ≤ q.uses.length ∧ i = .int .i64 k ∧ IsRel wr r (R.without q.id) (fun j => U j - (q.uses.take k).count j) G vo ∧ KeepC 148 G.F w1 wr ∧ Mods G.F w1 wr) (fun i _ => q.uses.length - (intOf i).toNat)
  case atStart => exact ⟨0, by omega, rfl, H1.out.used_eq (fun _ _ => by simp), KeepC.refl _ _ _, Mods.refl _ _⟩
  case round =>
    obtain ⟨k, hk, rfl, hr, hkc, hm⟩ := hrel
    have HRR := Lib.hid hr
    have HKC := Lib.hid hkc
    have HMR := Lib.hid hm
    rcases Nat.lt_or_ge k q.uses.length with hlt | hge
    · obtain ⟨i, hs⟩ : ∃ i, q.uses[k]? = some i := ⟨_, List.getElem?_eq_getElem hlt⟩
      obtain ⟨l, hl, rfl⟩ := (H.out.wf.req q HQ.out).2.2.2.2.2.2.2.1 i (List.mem_of_getElem? hs)
      obtain ⟨g, rfl, hc⟩ := LRow.at (HL1.out.keepT hkc (by decide)) rfl hs
      have hl' : l ∈ (R.without q.id).links := hl
      have hcs := count_take_succ hs l.id
      have hcl := count_take_le q.uses (k + 1) l.id
      have hu := HU.out l.id
      simp only [if_true] at hcs
      obtain ⟨n, hn⟩ : ∃ n, U l.id - (q.uses.take k).count l.id = n + 1 := ⟨U l.id - (q.uses.take k).count l.id - 1, by omega⟩
      have hn9 : n ≤ 1000 := by omega
      have d2 : wr.cell? ⟨G.lb l.id, 2, none⟩ = some (.int .i64 ((n + 1 : Nat) : Int)) := by
        rw [link_cell hr hl' 2, hn]
        rfl
      have f2 : wr.frozen? ⟨G.lb l.id, 2, none⟩ = false := frozen_of_row _ _ _ _ _ (hr.link l hl').2
      have HS := Lib.hid (hr.setUsed hl' n)
      have HLF := Lib.hid (hr.link l hl').1
      have HCS := Lib.hid (fun j => count_take_succ hs j)
      have HN : Hid (n = U l.id - (q.uses.take (k + 1)).count l.id) := Lib.hid (by omega)
      clear hr hkc hm hs hl hcs hcl hu hn hl'
      go_wp2_with fail
      refine ⟨⟨k + 1, by omega, by simp, HS.out.1.used_eq (fun p hp => ?_), HKC.out.trans HS.out.2, HMR.out.setCell (p := ⟨G.lb l.id, 2, none⟩) (Or.inl HLF.out) _⟩, by simp [intOf]; omega⟩
      by_cases e : p.id = l.id
      · rw [if_pos e, e]
        exact HN.out.symm
      · rw [if_neg e, HCS.out p.id, if_neg e]
        simp
    · obtain rfl : k = q.uses.length := by omega
      clear hr hkc hm
      go_wp2_with fail
      go_end0
      refine ⟨rfl, HRR.out.used_eq (fun p _ => by rw [List.take_length]), ?_, ?_⟩
      · exact (show KeepC 148 G.F w w1 from ⟨K1.out.size, K1.out.cells⟩).trans HKC.out
      · exact (show Mods G.F w w1 from ⟨HMM.out.os, HMM.out.tape, HMM.out.output, HMM.out.size, HMM.out.block⟩).trans HMR.out (fun _ hb => Or.inl hb)
end
end Go.Proofs.YtlgoeipgmjcboaaGreatDoor
namespace Go.Proofs.YtlgoeipgmjcboaaGreatDoor
open Go.RowKit Me

namespace Me
/-- 'delete(m, k)' in a round, in a region that draws. -/
theorem step_del_range {P : Program} {k : TypeId} {α : Type} [DecidableEq α] {K : KB P k α} (w : World) {ops : Array Oper} {o : Oper} {a : Act} {Kk : Act → World → Prop} {Q : Exit → Act → World → Prop} {E : Prop} (hg : o.guard = none) (m x : Operand) (t : TypeId) (hop : o.op = Op.call { callee := Callee.builtin Builtin.delete, args := #[m, x], argTypes := #[t, k] }) (e : TypeId) (ht : P.underlying t = some (.map k e)) (b r : Nat) (M T : List (α × Nat)) (hm : a.eval m = .map (some b))
    (h : PRange K w b r M T) (y : α) (hx : a.eval x = K.val y) (c : Nat) (hy : (y, c) ∈ M)
    (hK : ∀ w', PRange K w' b r (M.filter fun e => decide (e.1 ≠ y)) (T.filter fun e => decide (e.1 ≠ y)) → Mods [b] w w' → w'.heap.size = w.heap.size → w'.rangeLeft b r ≤ w.rangeLeft b r → Kk (a.put o.dst (.tuple #[])) w') : if Region.wanted o (yielded ops a.tmps) = true then Oper.wp P o a w Kk Q else E := by
  rw [if_pos (by simp [Region.wanted, hg])]
  obtain ⟨n, D, left, cnt, h1, h2, rfl⟩ := h
  have hok := h2.ok _ hy
  obtain ⟨w', cnt', hrun, g1, hle, g2⟩ := h1.drop K.keyed ht (K.key y hok) o.type
  unfold Oper.wp
  simp [execOp, hop, resolve, invoke, builtin, hm, hx, hrun, Result.andThen]
  refine hK w' ⟨n, _, _, cnt', g1, h2.del (h1.owns.tidy K.keyed) y hok c hy, ?_⟩ (mods_grown g2.grown) ?_ (by rw [g1.left_eq, h1.left_eq]; exact hle)
  · rw [List.filter_filter, List.filter_filter]
    refine List.filter_congr fun e hm => ?_
    rw [sameKey_lit (h2.ok e hm) hok]
    by_cases e1 : e.1 = y <;> simp [e1]
  · obtain ⟨_, _, _, _, _, rfl⟩ := g2
    simp [Go.ChangeMaps.setBlock]
end Me
section
variable {w w' : World} {r : Nat} {R : RelP} {U : Nat → Nat} {G : Gh} {vo : Value}
def RelP.only (R : RelP) (p : LinkP → Bool) : RelP := { R with links := R.links.filter p }
theorem RelP.Wf.only (h : R.Wf) (p : LinkP → Bool) (hp : ∀ q ∈ R.reqs, ∀ i ∈ q.uses, ∀ l ∈ R.links, l.id = i → p l = true) : (R.only p).Wf :=
  ⟨h.msize, h.fids, h.tags, h.many, h.cli, fun l hl => h.link l (List.mem_filter.1 hl).1, h.links.filter _, fun q hq => by
    obtain ⟨g1, g2, g3, g4, g5, g6, g7, g8, g9⟩ := h.req q hq
    refine ⟨g1, g2, g3, g4, g5, g6, g7, fun i hi => ?_, g9⟩
    obtain ⟨l, hl, e⟩ := g8 i hi
    exact ⟨l, List.mem_filter.2 ⟨hl, hp q hq i hi l hl e⟩, e⟩, h.reqs, h.names⟩
/-- The map of links holds fewer. -/
theorem IsRel.only (h : IsRel w r R U G vo) (p : LinkP → Bool) (hp : ∀ q ∈ R.reqs, ∀ i ∈ q.uses, ∀ l ∈ R.links, l.id = i → p l = true) (hm : Mods [G.mb] w w') (hM : PMap KP w' G.mb (linkM (R.only p) G)) : IsRel w' r (R.only p) U G vo := by
  obtain ⟨es, cl, hub⟩ : ∃ es c, w.heap[G.mb]? = some (.map es c) := by
    obtain ⟨D, ⟨es, clock, h1, _⟩, _⟩ := h.links
    exact ⟨es, clock, h1⟩
  have hc : ∀ T, KeepC T G.F w w' := fun T => KeepC.map hub hm
  have hs : ∀ l ∈ (R.only p).links, l ∈ R.links := fun l hl => (List.mem_filter.1 hl).1
  refine ⟨h.wf.only p hp, h.here, fun k hk => Nat.lt_of_lt_of_le (h.lt k hk) hm.size, (hc 0).cells _ _ _ _ h.here.1 (by decide) h.cells, ⟨h.row.1, h.row.2.1, ?_⟩, fun i c hi => (h.cli i c hi).keepT (hc 0) (by decide) (by decide), h.cbi, hM,
    fun l hl => ⟨(h.link l (hs l hl)).1, (hc 0).cells _ _ _ _ (h.link l (hs l hl)).1 (by decide) (h.link l (hs l hl)).2⟩, fun l hl k hk => h.lbi l (hs l hl) k (hs k hk), h.under.mods hm (by simpa using h.apart.symm), fun q hq => ((h.req q hq).keepT (hc 0) (by decide) (by decide) (by decide) (by decide) (by decide) (by decide) (by decide)).sub (fun p hp => hp), h.rbi, h.apart⟩
  obtain ⟨cur, h1, h2⟩ := h.row.2.2
  exact ⟨cur, (hc 0).cells _ _ _ _ h.here.2.1 (by decide) h1, h2⟩
def keepL (R : RelP) (l : LinkP) : Bool := l.real || R.used l.id != 0
theorem used_pos {q : ReqP} (hq : q ∈ R.reqs) {i : Nat} (hi : i ∈ q.uses) : R.used i ≠ 0 := by
  have h1 : 0 < q.uses.count i := List.count_pos_iff.2 hi
  unfold RelP.used
  intro e
  have h2 := List.sum_eq_zero_iff_forall_eq_nat.1 e (q.uses.count i) (List.mem_map.2 ⟨q, hq, rfl⟩)
  omega
theorem keepL_used {q : ReqP} (hq : q ∈ R.reqs) {i : Nat} (hi : i ∈ q.uses) (l : LinkP) (e : l.id = i) : keepL R l = true := by
  unfold keepL
  rw [e]
  have := used_pos hq hi
  simp [this]
/-- Those that stay, and those that are still to come. -/
def stillL (R : RelP) (T : List ((Int × Nat) × Nat)) (l : LinkP) : Bool := keepL R l || T.any fun e => decide (e.1 = ((l.client : Int), l.fid))
theorem link_key (hw : R.Wf) {l k : LinkP} (hl : l ∈ R.links) (hk : k ∈ R.links) (h : ((l.client : Int), l.fid) = ((k.client : Int), k.fid)) : l = k := by
  simp only [Prod.mk.injEq] at h
  have hc : l.client = k.client := by omega
  have h1 := find_unique (p := fun x : LinkP => x.client == k.client && x.fid == k.fid) hw.links hk (by simp) (fun y _ z _ hy hz hP => hP.2.2 (by simp at hy hz; exact ⟨by rw [hy.1, hz.1], by rw [hy.2, hz.2]⟩))
  have h2 := find_unique (p := fun x : LinkP => x.client == k.client && x.fid == k.fid) hw.links hl (by simp [hc, h.2]) (fun y _ z _ hy hz hP => hP.2.2 (by simp at hy hz; exact ⟨by rw [hy.1, hz.1], by rw [hy.2, hz.2]⟩))
  rw [h1] at h2
  exact (Option.some.inj h2).symm
theorem only_all {p : LinkP → Bool} (h : ∀ l ∈ R.links, p l = true) : R.only p = R := by
  unfold RelP.only
  rw [List.filter_eq_self.2 h]
theorem only_congr {p q : LinkP → Bool} (h : ∀ l ∈ R.links, p l = q l) : R.only p = R.only q := by
  unfold RelP.only
  rw [List.filter_congr h]
theorem only_only {p q : LinkP → Bool} (h : ∀ l ∈ R.links, q l = true → p l = true) : (R.only p).only q = R.only q := by
  unfold RelP.only
  simp only [List.filter_filter]
  congr 1
  refine List.filter_congr fun l hl => ?_
  by_cases e : q l = true
  · simp [e, h l hl e]
  · simp [e]
theorem any_strike {α : Type} [DecidableEq α] {T : List (α × Nat)} {x y : α} (h : y ≠ x) : ((T.filter fun e => decide (e.1 ≠ x)).any fun e => decide (e.1 = y)) = T.any fun e => decide (e.1 = y) := by
  rw [Bool.eq_iff_iff, List.any_eq_true, List.any_eq_true]
  constructor
  · rintro ⟨e, he, h'⟩
    exact ⟨e, (List.mem_filter.1 he).1, h'⟩
  · rintro ⟨e, he, h'⟩
    refine ⟨e, List.mem_filter.2 ⟨he, ?_⟩, h'⟩
    have : e.1 = y := by simpa using h'
    simpa [this] using h
theorem still_strike (hw : R.Wf) {T : List ((Int × Nat) × Nat)} {l k : LinkP} (hl : l ∈ R.links) (hk : k ∈ R.links) (hne : k ≠ l) : stillL R (T.filter fun e => decide (e.1 ≠ ((l.client : Int), l.fid))) k = stillL R T k := by
  unfold stillL
  rw [any_strike (fun e => hne (link_key hw hk hl e))]
theorem still_gone {T : List ((Int × Nat) × Nat)} {l : LinkP} (h : keepL R l = false) : stillL R (T.filter fun e => decide (e.1 ≠ ((l.client : Int), l.fid))) l = false := by
  unfold stillL
  rw [h, Bool.false_or, List.any_eq_false]
  intro e he
  have := (List.mem_filter.1 he).2
  simp only [decide_eq_true_eq] at this
  simpa using this
theorem still_less (_hw : R.Wf) {T : List ((Int × Nat) × Nat)} {f : (Int × Nat) × Nat → Bool} : ∀ l ∈ R.links, stillL R (T.filter f) l = true → stillL R T l = true := by
  intro l _ h
  unfold stillL at h ⊢
  rw [Bool.or_eq_true] at h ⊢
  refine h.imp id (fun h => ?_)
  obtain ⟨e, he, h'⟩ := List.any_eq_true.1 h
  exact List.any_eq_true.2 ⟨e, (List.mem_filter.1 he).1, h'⟩
theorem filter_twice {α : Type} [DecidableEq α] (T : List (α × Nat)) (x : α) : ((T.filter fun e => decide (e.1 ≠ x)).filter fun e => decide (e.1 ≠ x)) = T.filter fun e => decide (e.1 ≠ x) := by
  rw [List.filter_filter]
  exact List.filter_congr fun e _ => by simp
theorem linkM_strike (hw : R.Wf) {T : List ((Int × Nat) × Nat)} {l : LinkP} (hl : l ∈ R.links) (h : keepL R l = false) :
    (linkM (R.only (stillL R T)) G).filter (fun e => decide (e.1 ≠ ((l.client : Int), l.fid))) = linkM (R.only (stillL R (T.filter fun e => decide (e.1 ≠ ((l.client : Int), l.fid))))) G := by
  unfold linkM RelP.only
  rw [List.filter_map, List.filter_filter]
  congr 1
  refine List.filter_congr fun k hk => ?_
  by_cases e : k = l
  · subst e
    rw [still_gone h]
    simp
  · rw [still_strike hw hl hk e]
    have : ((k.client : Int), k.fid) ≠ ((l.client : Int), l.fid) := fun e' => e (link_key hw hk hl e')
    simp only [Function.comp, ne_eq, this, not_false_eq_true, decide_true, Bool.true_and]
set_option maxHeartbeats 2000000 in
theorem prune_any (h : IsRel w r R U G vo) (hU : ∀ l ∈ R.links, U l.id = R.used l.id) : Calls Tryz.prog 44 #[.pointer (some ⟨r, 0, none⟩)] w fun e w' => e = .returned (.tuple #[]) ∧ IsRel w' r R.prune U G vo ∧ Mods G.F w w' := by
  have c4 : w.cell? ⟨r, 4, none⟩ = some (.map (some G.mb)) := h.cell 4
  have HM : Hid (PMap KP w G.mb (linkM R G)) := Lib.hid h.links
  have H := Lib.hid h
  have HU := Lib.hid hU
  have HW := Lib.hid h.wf
  have hlt := fun k hk => h.lt k hk
  have HLT := Lib.hid hlt
  clear h hU hlt
  go_enter Tryz.func44, Tryz.ntmps44
  go_wp2_with (at_range; refine wpList_range_pm _ rfl _ 77 rfl 146 Tryz.underlying77 G.mb (linkM R G) rfl HM.out ?_; intro wI hR hmI hsI; have HR := Lib.hid hR; have HMI := Lib.hid hmI; clear hR hmI hsI; go_frame)
  generalize hit : w.heap.size = it at *
  go_loopw [3] (fun _ wr => ∃ T, PRange KP wr G.mb it (linkM (R.only (stillL R T)) G) T ∧ IsRel wr r (R.only (stillL R T)) U G vo ∧ Mods G.F w wr) (fun _ wr => wr.rangeLeft G.mb it)
  case atStart =>
    have e : R.only (stillL R (linkM R G)) = R := only_all (fun l hl => by
      unfold stillL
      rw [Bool.or_eq_true]
      exact Or.inr (List.any_eq_true.2 ⟨_, List.mem_map.2 ⟨l, hl, rfl⟩, by simp⟩))
    exact ⟨_, by rw [e]; exact HR.out, by rw [e]; exact H.out.still HMI.out, HMI.out.mono (by simp)⟩
  case round =>
    obtain ⟨T, hT, hr, hm⟩ := hrel
    have HTT := Lib.hid hT
    have HRR := Lib.hid hr
    have HMR := Lib.hid hm
    clear hT hr hm
    go_wp2_with (at_next; refine wpList_next_pm _ rfl _ rfl G.mb it (linkM (R.only (stillL R T)) G) _ rfl HTT.out ?_ ?_)
    · intro hT0
      have e : R.only (stillL R T) = R.prune := only_congr (fun l _ => by rw [hT0]; simp [stillL, keepL])
      have hrr := HRR.out
      rw [e] at hrr
      have HE := Lib.hid hrr
      clear hrr e
      go_wp2_with fail
      go_end0
      exact ⟨rfl, HE.out, HMR.out⟩
    · intro x1 x2 c w2 hx hxT hxM hR2 hm2 hs2 hl2 hen
      have hR2 : PRange KP w2 G.mb it (linkM (R.only (stillL R T)) G) (T.filter fun e => decide (e.1 ≠ (x1, x2))) := by simpa using hR2
      obtain ⟨l, hl, e⟩ := List.mem_map.1 hxM
      simp only [Prod.mk.injEq] at e
      obtain ⟨⟨rfl, rfl⟩, rfl⟩ := e
      have hlR : l ∈ R.links := (List.mem_filter.1 hl).1
      have hen' : (Instr.entry (.pointer (some ⟨it, 0, none⟩))).run Tryz.prog w2 = .ok (.tuple #[.agg #[.int .i64 (l.client : Int), .int .u32 (l.fid : Int)], .pointer (some ⟨G.lb l.id, 0, none⟩)]) w2 := hen
      have hni : ∀ k ∈ G.F, k ∉ [it] := fun k hk hk' => by
        simp at hk'
        have := HLT.out k hk
        omega
      have hrel2 := HRR.out.mods hm2 hni
      have hmA := (Mods.refl [] w2).alloc (.cells #[.int .i64 (l.client : Int), .int .u32 (l.fid : Int)] 92)
      have hrelA := hrel2.still hmA
      have k1 := link_cell hrelA hl 1
      have k2 := link_cell hrelA hl 2
      have k4 := hrelA.cell 4
      simp only [List.getElem?_toArray, List.getElem?_cons_zero, List.getElem?_cons_succ] at k1 k2 k4
      have HRA := Lib.hid hrelA
      have HLP := Lib.hid hrel2.lt
      have HRP := Lib.hid (heap_alloc_new w2 (.cells #[.int .i64 (l.client : Int), .int .u32 (l.fid : Int)] 92))
      have hRA := hR2.mods hmA (by simp) (by simp)
      have hLA := hR2.left hmA (by simp) (by simp)
      have HPA := Lib.hid hRA
      have HLA : Hid ((w2.alloc (.cells #[.int .i64 (l.client : Int), .int .u32 (l.fid : Int)] 92)).rangeLeft G.mb it < wr.rangeLeft G.mb it) := Lib.hid (by rw [hLA]; exact hl2)
      have HMA := Lib.hid ((HMR.out.trans hm2 (fun b hb => Or.inr (by simp at hb; omega))).trans hmA (by simp))
      have HLR := Lib.hid hlR
      have HUL := Lib.hid (HU.out l hlR)
      have HIN := Lib.hid hxM
      have hnw : it ∉ G.F := fun hk' => by
        have := HLT.out it hk'
        omega
      have HNW := Lib.hid hnw
      clear hen hm2 hs2 hR2 hl2 hxT hxM hl hni hrel2 hmA hrelA hRA hLA hnw hlR
      by_cases hk : keepL R l = true
      · have HEQ : Hid (R.only (stillL R T) = R.only (stillL R (T.filter fun e => decide (e.1 ≠ ((l.client : Int), l.fid))))) := Lib.hid (only_congr (fun k hk' => by
          by_cases e : k = l
          · subst e
            unfold stillL
            rw [hk]
            rfl
          · exact (still_strike HW.out HLR.out hk' e).symm))
        have HFIN : Hid (∃ T', PRange KP (w2.alloc (.cells #[.int .i64 (l.client : Int), .int .u32 (l.fid : Int)] 92)) G.mb it (linkM (R.only (stillL R T')) G) T' ∧ IsRel (w2.alloc (.cells #[.int .i64 (l.client : Int), .int .u32 (l.fid : Int)] 92)) r (R.only (stillL R T')) U G vo ∧ Mods G.F w (w2.alloc (.cells #[.int .i64 (l.client : Int), .int .u32 (l.fid : Int)] 92))) :=
          Lib.hid ⟨_, HEQ.out ▸ HPA.out, HEQ.out ▸ HRA.out, HMA.out⟩
        cases er : l.real
        · rw [er] at k1
          have hb : ((U l.id : Int) == 0) = false := by
            unfold keepL at hk
            rw [er, ← HUL.out] at hk
            simpa using hk
          go_wp2_with fail
          exact ⟨HFIN.out, HLA.out⟩
        · rw [er] at k1
          go_wp2_with fail
          exact ⟨HFIN.out, HLA.out⟩
      · have hkf : keepL R l = false := by simpa using hk
        have er : l.real = false := by
          unfold keepL at hkf
          rw [Bool.or_eq_false_iff] at hkf
          exact hkf.1
        have hb : U l.id = 0 := by
          unfold keepL at hkf
          rw [Bool.or_eq_false_iff, ← HUL.out] at hkf
          simpa using hkf.2
        rw [er] at k1
        rw [hb] at k2
        have HKF := Lib.hid hkf
        clear hk hkf er hb
        go_wp2_with fail
        generalize w2.alloc (.cells #[.int .i64 (l.client : Int), .int .u32 (l.fid : Int)] 92) = wA at *
        generalize w2.heap.size = pb at *
        have hd : Mods [] wA wA.drew := (Mods.refl [] wA).drew
        have k4d : wA.drew.cell? ⟨r, 4, none⟩ = some (.map (some G.mb)) := k4
        have p0 : wA.drew.cell? ⟨pb, 0, none⟩ = some (.int .i64 (l.client : Int)) := by rw [cell_of_row _ _ _ _ _ _ (hd.heap HRP.out (by simp))]; rfl
        have p1 : wA.drew.cell? ⟨pb, 1, none⟩ = some (.int .u32 (l.fid : Int)) := by rw [cell_of_row _ _ _ _ _ _ (hd.heap HRP.out (by simp))]; rfl
        have hpd := HPA.out.mods hd (by simp) (by simp)
        have HPD := Lib.hid hpd
        have hld := HPA.out.left hd (by simp) (by simp)
        have HLD := Lib.hid hld
        have HPN : Hid (pb ≠ G.mb) := Lib.hid (fun e => by
          have := HLP.out _ HRA.out.here.2.2.1
          omega)
        clear hd k4 k1 k2 hpd hld
        go_region_held3 (fun W => W.cell? ⟨r, 4, none⟩ = some (.map (some G.mb)) ∧ W.cell? ⟨pb, 0, none⟩ = some (.int .i64 (l.client : Int)) ∧ W.cell? ⟨pb, 1, none⟩ = some (.int .u32 (l.fid : Int))) (go_keep) (first | (refine step_del_range _ rfl _ _ 77 rfl 146 Tryz.underlying77 G.mb it (linkM (R.only (stillL R T)) G) _ rfl HPD.out ((l.client : Int), l.fid) rfl (G.lb l.id) HIN.out ?_; intro w3 hR3 hm3 hs3 hl3; rw [filter_twice, linkM_strike HW.out HLR.out HKF.out] at hR3; have hrel3 := (HRA.out.still (Mods.refl [] wA).drew).only (stillL R (T.filter fun e => decide (e.1 ≠ ((l.client : Int), l.fid)))) (fun q hq i hi k hk e => by unfold stillL; rw [keepL_used (R := R) hq hi k e]; rfl) hm3 (by rw [only_only (still_less HW.out)]; exact hR3.pmap); rw [only_only (still_less HW.out)] at hrel3; have HR3 := Lib.hid hR3; have HREL3 := Lib.hid hrel3; have HM3 := Lib.hid hm3; have HL3 := Lib.hid hl3; have k4' : w3.cell? ⟨r, 4, none⟩ = some (.map (some G.mb)) := hrel3.cell 4; have hrow3 := hm3.heap ((Mods.refl [] wA).drew.heap HRP.out (by simp)) (by simpa using HPN.out); have p0' : w3.cell? ⟨pb, 0, none⟩ = some (.int .i64 (l.client : Int)) := (by rw [cell_of_row _ _ _ _ _ _ hrow3]; rfl); have p1' : w3.cell? ⟨pb, 1, none⟩ = some (.int .u32 (l.fid : Int)) := (by rw [cell_of_row _ _ _ _ _ _ hrow3]; rfl); clear hR3 hm3 hs3 hl3 hrel3 hrow3; go_simp))
        go_wp2_with fail
        refine ⟨⟨_, HR3.out, HREL3.out, (HMA.out.trans (Mods.refl [] wA).drew (by simp)).trans HM3.out (fun b hb => Or.inl (by simp at hb; subst hb; exact HRA.out.here.2.2.1))⟩, ?_⟩
        have h1 := HL3.out
        have h2 := HLD.out
        have h3 := HLA.out
        omega
end
end Go.Proofs.YtlgoeipgmjcboaaGreatDoor
