/- known: the server's fid of one of a client's; a request that is being made. | fresh: the server's fid of a new one of a client's. -/
import Derived.Test.YtlgoeipgmjcboaaGreatDoorJj
namespace Go.Proofs.YtlgoeipgmjcboaaGreatDoor
open Go.RowKit Me

/-- A request that is being made: its links lie in a row of its own. -/
structure Draft (w : World) (G : Gh) (b : Nat) (cs : Array Value) (n : Nat) (uses : List Nat) (vu : Value) : Prop where
  row : w.heap[b]? = some (.cells cs 115 (0, 0))
  size : cs.size = 43
  client : cs[36]? = some (.int .i64 (n : Int))
  held : cs[40]? = some vu
  list : w.ownsRow 0 146 1 vu uses.length (ptrs G uses)
  out : b ∉ G.F
  outs : ∀ k, vu.ownBlock = some k → k ∉ G.F
/-- A link more is used (0: none). -/
def addUse (uses : List Nat) (i : Nat) : List Nat := if i = 0 then uses else uses ++ [i]
theorem addUse_none (uses : List Nat) : addUse uses 0 = uses := if_pos rfl
theorem addUse_some (uses : List Nat) {i : Nat} (h : i ≠ 0) : addUse uses i = uses ++ [i] := if_neg h
theorem info146 : (Tryz.prog.info? 146).map (fun i => (i.zero, i.size, i.bytes)) = some (some (.pointer none), 1, 8) := by kernel_rfl
theorem link_look {R : RelP} {G : Gh} (n fid : Nat) : Me.look (linkM R G) ((n : Int), fid) = (R.link n fid).map fun l => G.lb l.id := by
  unfold Me.look linkM RelP.link
  rw [List.find?_map, Option.map_map]
  have : ((fun e : (Int × Nat) × Nat => decide (e.1 = ((n : Int), fid))) ∘ fun l : LinkP => (((l.client : Int), l.fid), G.lb l.id)) = fun l : LinkP => l.client == n && l.fid == fid := by
    funext l
    simp only [Function.comp, Prod.mk.injEq]
    by_cases e1 : l.client = n
    · by_cases e2 : l.fid = fid
      · simp [e1, e2]
      · simp [e1, e2]
    · have : ¬ (l.client : Int) = (n : Int) := by omega
      simp [e1, this]
  rw [this]
  rfl
section
variable {w w' : World} {r : Nat} {R : RelP} {U : Nat → Nat} {G : Gh} {vo : Value}
theorem link_mem {n fid : Nat} {l : LinkP} (h : R.link n fid = some l) : l ∈ R.links ∧ l.client = n ∧ l.fid = fid := by
  have h1 := List.find?_some h
  simp only [Bool.and_eq_true, beq_iff_eq] at h1
  exact ⟨List.mem_of_find?_eq_some h, h1.1, h1.2⟩
theorem place_ok (n fid : Nat) (hn : n ≤ 16) (hf : fid < 4294967296) : placeOk ((n : Int), fid) := by
  refine ⟨?_, hf⟩
  simp [Lit.wf, IntKind.min, IntKind.max, IntKind.signed, IntKind.bits]
  omega
theorem Draft.same {b n : Nat} {cs : Array Value} {uses : List Nat} {vu : Value} (hd : Draft w G b cs n uses vu) : cs.setIfInBounds 40 vu = cs := by
  apply Array.ext
  · simp
  · intro i h1 h2
    rw [Array.getElem_setIfInBounds (by simpa using h2)]
    split
    · rename_i e
      subst e
      have := hd.held
      rw [Array.getElem?_eq_getElem h2] at this
      exact (Option.some.inj this).symm
    · rfl
theorem IsRel.undrew (h : IsRel w.drew r R U G vo) : IsRel w r R U G vo := h.still ⟨rfl, rfl, rfl, Nat.le_refl _, fun _ _ _ => rfl⟩
/-- A link more is used. -/
theorem Draft.grow {w3 : World} {b n : Nat} {cs : Array Value} {uses : List Nat} {vu v' : Value} {i : Nat} (hd : Draft w G b cs n uses vu) (hm : Mods vu.ownBlock.toList w w3) (hlt : ∀ k ∈ G.F, k < w.heap.size)
    (hown : w3.ownsRow 0 146 1 v' (uses.length + 1) (ptrs G uses ++ [.pointer (some ⟨G.lb i, 0, none⟩)])) (hat : ∀ k, v'.ownBlock = some k → vu.ownBlock = some k ∨ w.heap.size ≤ k) :
    w3.heap[b]? = some (.cells cs 115 (0, 0)) ∧ Draft (w3.setCell ⟨b, 40, none⟩ v') G b (cs.setIfInBounds 40 v') n (uses ++ [i]) v' ∧ Mods (b :: vu.ownBlock.toList) w (w3.setCell ⟨b, 40, none⟩ v') := by
  have hne := ownsRow_not hd.list hd.row (by decide)
  have hrow : w3.heap[b]? = some (.cells cs 115 (0, 0)) := hm.heap hd.row (by simpa using hne)
  have hne' := ownsRow_not hown hrow (by decide)
  refine ⟨hrow, ⟨heap_setCell_same _ _ _ _ _ _ hrow, by simpa using hd.size, ?_, ?_, ?_, hd.out, ?_⟩, (hm.mono (fun k hk => Or.inl (by simp at hk ⊢; exact Or.inr hk))).setCell (p := ⟨b, 40, none⟩) (Or.inl (by simp)) _⟩
  · rw [Array.getElem?_setIfInBounds, if_neg (by decide)]
    exact hd.client
  · rw [Array.getElem?_setIfInBounds, if_pos rfl, hd.size]
    rfl
  · have e : ptrs G (uses ++ [i]) = ptrs G uses ++ [.pointer (some ⟨G.lb i, 0, none⟩)] := by simp [ptrs]
    rw [e, List.length_append]
    exact ownsRow_set hown (a := ⟨b, 40, none⟩) hne' v'
  · intro k hk hk'
    rcases hat k hk with h1 | h1
    · exact hd.outs k h1 hk'
    · have := hlt k hk'
      omega
set_option maxRecDepth 100000 in
set_option maxHeartbeats 2000000 in
theorem known_any (h : IsRel w r R U G vo) {b n : Nat} {cs : Array Value} {uses : List Nat} {vu : Value} (hd : Draft w G b cs n uses vu) (hu : uses.length ≤ 2) (hn : n ≤ 16) (fid : Nat) (hf : fid < 4294967296) :
    Calls Tryz.prog 85 #[.pointer (some ⟨r, 0, none⟩), .pointer (some ⟨b, 0, none⟩), .int .u32 (fid : Int)] w fun e w' => e = .returned (.int .u32 (((R.old n fid).1 : Nat) : Int)) ∧ ∃ vu', Draft w' G b (cs.setIfInBounds 40 vu') n (addUse uses (R.old n fid).2) vu' ∧
      Mods (b :: vu.ownBlock.toList) w w' ∧ (∀ k, vu'.ownBlock = some k → vu.ownBlock = some k ∨ w.heap.size ≤ k) := by
  have hself := hd.same
  by_cases e1 : fid = 4294967295
  · subst e1
    have HE : Hid (R.old n 4294967295 = (4294967295, 0)) := Lib.hid (by unfold RelP.old; rw [if_pos rfl])
    have HD := Lib.hid hd
    have HS := Lib.hid hself
    clear h hd hself
    go_enter Tryz.func85, Tryz.ntmps85
    go_wp2_with fail
    go_ret
    exact ⟨by rw [HE.out]; rfl, vu, by rw [HS.out, HE.out, addUse_none]; exact HD.out, Mods.refl _ _, fun k hk => Or.inl hk⟩
  · have b1 : ((fid : Int) == 4294967295) = false := by simpa using (by omega : ¬ (fid : Int) = 4294967295)
    have hdr := (Mods.refl [] w).drew
    have hrel := h.still hdr
    have c4 : w.drew.cell? ⟨r, 4, none⟩ = some (.map (some G.mb)) := hrel.cell 4
    have hrow := hdr.heap hd.row (by simp)
    have c36 : w.drew.cell? ⟨b, 36, none⟩ = some (.int .i64 (n : Int)) := by rw [cell_of_row _ _ _ _ _ _ hrow]; exact hd.client
    have hlk := hrel.links.look Tryz.underlying77 (zero146 w.drew) ((n : Int), fid) (place_ok n fid hn hf)
    change (Instr.lookup 77 (.map (some G.mb)) (.agg #[.int .i64 (n : Int), .int .u32 (fid : Int)]) false).run Tryz.prog w.drew = .ok (ptV (Me.look (linkM R G) ((n : Int), fid))) w.drew at hlk
    rw [link_look] at hlk
    have HREL := Lib.hid hrel
    have HD := Lib.hid hd
    have HDD : Hid (Draft w.drew G b cs n uses vu) := Lib.hid ⟨hd.row, hd.size, hd.client, hd.held, hd.list, hd.out, hd.outs⟩
    have HS := Lib.hid hself
    cases e2 : R.link n fid with
    | none =>
      have HE : Hid (R.old n fid = (4294967294, 0)) := Lib.hid (by unfold RelP.old; rw [if_neg e1, e2])
      rw [e2] at hlk
      simp only [Option.map_none, ptV] at hlk
      clear h hd hself hrel hdr hrow e2
      go_enter Tryz.func85, Tryz.ntmps85
      go_wp2_with fail
      go_region
      all_goals go_wp2_with fail
      all_goals go_ret
      all_goals exact ⟨by rw [HE.out]; rfl, vu, by rw [HS.out, HE.out, addUse_none]; exact HDD.out, (Mods.refl _ w).drew, fun k hk => Or.inl hk⟩
    | some l =>
      obtain ⟨hl, -, -⟩ := link_mem e2
      have hlid := (h.wf.link l hl).1
      have HE : Hid (R.old n fid = (l.num, l.id)) := Lib.hid (by unfold RelP.old; rw [if_neg e1, e2])
      rw [e2] at hlk
      simp only [Option.map_some, ptV] at hlk
      have k0 := link_cell hrel hl 0
      simp only [List.getElem?_toArray, List.getElem?_cons_zero] at k0
      have hrw := hd.held
      have c40 : w.drew.cell? ⟨b, 40, none⟩ = some vu := by rw [cell_of_row _ _ _ _ _ _ hrow]; exact hd.held
      obtain ⟨A, c, rfl, -⟩ := ownsRow_slice hd.list
      obtain ⟨i0, hi, hz0, hz1, hz2⟩ := info_parts info146
      have HL := Lib.hid hl
      have HROW := Lib.hid hrow
      clear h hd hself hrel hdr hrow e2 hrw
      go_enter Tryz.func85, Tryz.ntmps85
      go_wp2_with fail
      go_region
      all_goals go_wp2_with (at_builtin; go_must (refine wpList_app _ rfl _ _ 112 112 rfl 0 146 i0 (.pointer none) 1 8 Tryz.underlying112 hi hz0 hz1 hz2 rfl _ _ _ rfl (HDD.out.list.alloc _) _ 1 [.pointer (some ⟨G.lb l.id, 0, none⟩)] rfl (src_one Tryz.underlying112 w.drew _ _ rfl) (by unfold maxLen; omega) (by omega) (Nat.zero_le _) ?_))
      intro v' w3 hown hgrow hat
      obtain ⟨A', c', rfl, -⟩ := ownsRow_slice hown
      have hm3 : Mods (Value.slice A uses.length c).ownBlock.toList w w3 := ((((Mods.refl _ w).drew).alloc _)).grown hgrow (fun k hk => Or.inl (by simp [hk]))
      have hat' : ∀ k, (Value.slice A' (uses.length + 1) c').ownBlock = some k → (Value.slice A uses.length c).ownBlock = some k ∨ w.heap.size ≤ k := fun k hk => (hat.imp (fun e => by rw [← e]; exact hk) (fun e => by rw [hk] at e; have := Option.some.inj e; omega))
      have hg := HD.out.grow hm3 (fun k hk => HREL.out.lt k hk) hown hat'
      have f40 : w3.frozen? ⟨b, 40, none⟩ = false := frozen_of_row _ _ _ _ _ hg.1
      have d40 : w3.cell? ⟨b, 40, none⟩ = some (.slice A uses.length c) := by rw [cell_of_row _ _ _ _ _ _ hg.1]; exact HD.out.held
      have hfin : Draft (w3.setCell ⟨b, 40, none⟩ (Value.slice A' (uses.length + 1) c')) G b (cs.setIfInBounds 40 (Value.slice A' (uses.length + 1) c')) n (addUse uses l.id) (Value.slice A' (uses.length + 1) c') := by rw [addUse_some _ (by omega)]; exact hg.2.1
      have hrel4 : IsRel (w3.setCell ⟨b, 40, none⟩ (Value.slice A' (uses.length + 1) c')) r R U G vo := HREL.out.undrew.mods hg.2.2 (fun k hk hk' => by
        simp at hk'
        rcases hk' with rfl | hk'
        · exact HD.out.out hk
        · exact HD.out.outs k hk' hk)
      have k0' : (w3.setCell ⟨b, 40, none⟩ (Value.slice A' (uses.length + 1) c')).cell? ⟨G.lb l.id, 0, none⟩ = some (.int .u32 (l.num : Int)) := by
        rw [link_cell hrel4 hl 0]
        rfl
      have HG := Lib.hid hg
      have HF := Lib.hid hfin
      have HAT := Lib.hid hat'
      clear hg hfin hrel4 hm3 hat' hown hgrow hat k0
      go_wp2_with fail
      go_ret
      exact ⟨by rw [HE.out]; rfl, (Value.slice A' (uses.length + 1) c'), by rw [HE.out]; exact HF.out, HG.out.2.2, HAT.out⟩
end
end Go.Proofs.YtlgoeipgmjcboaaGreatDoor
namespace Go.Proofs.YtlgoeipgmjcboaaGreatDoor
open Go.RowKit Me

namespace Me
/-- 'm[k] = p', of a new key. -/
theorem PMap.run_put {P : Program} {k : TypeId} {α : Type} [DecidableEq α] {K : KB P k α} {w : World} {b : Nat} {M : List (α × Nat)} (h : PMap K w b M) {t e : TypeId} (ht : P.underlying t = some (.map k e)) (hn : M.length < maxLen) (y : α) (hy : K.ok y) (hnew : ∀ e ∈ M, e.1 ≠ y) (c : Nat) :
    ∃ w', (Instr.mapUpdate t (.map (some b)) (K.val y) (.pointer (some ⟨c, 0, none⟩))).run P w = .ok () w' ∧ PMap K w' b (M ++ [(y, c)]) ∧ Mods [b] w w' ∧ w'.heap.size = w.heap.size := by
  obtain ⟨D, h1, h2⟩ := h
  obtain ⟨w', hrun, g1, g2⟩ := h1.store K.keyed ht hn (K.key y hy) (ptR_mk (some c))
  refine ⟨w', hrun, PMap.of g1 (h2.put (h1.tidy K.keyed) y hy hnew c), mods_grown g2.grown, ?_⟩
  obtain ⟨_, _, _, _, _, rfl⟩ := g2
  simp [Go.ChangeMaps.setBlock]
end Me
/-- More of a relay lies somewhere now; what was there up to now lies where it lay. -/
structure Gh.More (G G' : Gh) (made : Nat) : Prop where
  sub : ∀ k ∈ G.F, k ∈ G'.F
  lb : ∀ i, i ≤ made → G'.lb i = G.lb i
  rb : ∀ i, i ≤ made → G'.rb i = G.rb i
section
variable {w w' : World} {r made : Nat} {R R' : RelP} {U : Nat → Nat} {G G' : Gh} {vo : Value}
theorem Gh.More.refl : G.More G made := ⟨fun _ h => h, fun _ _ => rfl, fun _ _ => rfl⟩
theorem IsCli.more {b : Nat} {c : CliP} (h : IsCli w G.F b c) (m : G.More G' made) : IsCli w G'.F b c := by
  obtain ⟨hb, p, e1, e2, e3⟩ := h
  refine ⟨m.sub _ hb, p, e1, e2, fun he hw => ?_⟩
  obtain ⟨g, mm, vn, vq, vd, f1, f2, f3⟩ := e3 he hw
  exact ⟨g, mm, vn, vq, vd, f1, m.sub _ f2, f3⟩
theorem ptrs_more {l : List Nat} (m : G.More G' made) (hl : ∀ i ∈ l, i ≤ made) : ptrs G' l = ptrs G l := by
  unfold ptrs
  exact List.map_congr_left fun i hi => by rw [m.lb i (hl i hi)]
theorem LRow.more {v : Value} {l : List Nat} (h : LRow w G v l) (m : G.More G' made) (hl : ∀ i ∈ l, i ≤ made) : LRow w G' v l := by
  obtain ⟨A, c, e, g1, g2, g3, g4⟩ := h
  refine ⟨A, c, e, g1, g2, g3.imp id (fun ⟨g, cur, e1, e2, e3, e4⟩ => ⟨g, cur, e1, m.sub _ e2, e3, fun j i hj => ?_⟩), g4⟩
  rw [m.lb i (hl i (List.mem_of_getElem? hj))]
  exact e4 j i hj
theorem IsThen.more {q : ReqP} {v : Value} (h : IsThen w r G R q v) (m : G.More G' made) (hl : ∀ i ∈ q.uses, i ≤ made) (hf : q.fresh ≤ made) (hn : q.names ≤ made) (hi : ∀ p ∈ R.reqs, p.id ≤ made)
    (hR : ∀ p ∈ R'.reqs, p ∈ R.reqs ∨ (made < p.id ∧ G'.rb p.id ∉ G.F)) : IsThen w r G' R' q v := by
  rcases h with ⟨k, c1, c2, e, f1, f2, g1, g2, f3, ⟨cs', t, g3, g4, g5, g6⟩, g7⟩ | ⟨k, c1, c2, c3, c4, vu', e, f1, f2, f3, f4, g1, g2, g3, g4, g5⟩
  · have e2 := m.rb _ hn
    refine Or.inl ⟨k, c1, c2, e, m.sub _ f1, m.sub _ f2, g1, by rw [e2]; exact g2, by rw [e2]; exact m.sub _ f3, ⟨cs', t, by rw [e2]; exact g3, g4, g5, fun p hp hq => ?_⟩, fun p hp hq => ?_⟩
    · rcases hR p hp with h1 | ⟨h1, _⟩
      · exact g6 p h1 hq
      · omega
    · rcases hR p hp with h1 | ⟨h1, h2⟩
      · rw [e2, m.rb _ (hi p h1)] at hq
        exact g7 p h1 hq
      · rw [hq, e2] at h2
        exact absurd f3 h2
  · refine Or.inr ⟨k, c1, c2, c3, c4, vu', e, m.sub _ f1, m.sub _ f2, m.sub _ f3, m.sub _ f4, g1, g2, g3.more m hl, ?_, g5⟩
    rw [m.lb _ hf]
    exact g4
theorem IsReq.more {q : ReqP} (h : IsReq w r G R q) (m : G.More G' made) (hl : ∀ i ∈ q.uses, i ≤ made) (hf : q.fresh ≤ made) (hn : q.names ≤ made) (hi : ∀ p ∈ R.reqs, p.id ≤ made) (hq : q.id ≤ made)
    (hR : ∀ p ∈ R'.reqs, p ∈ R.reqs ∨ (made < p.id ∧ G'.rb p.id ∉ G.F)) : IsReq w r G' R' q := by
  obtain ⟨hb, cs, vu, vt, e1, e2, e3, e4, e5, e6, e7, e8, e9, e10, e11, e12⟩ := h
  have e := m.rb _ hq
  exact ⟨by rw [e]; exact m.sub _ hb, cs, vu, vt, by rw [e]; exact e1, e2, e3, e4, e5, e6, e7, e8, e9, e10, e11.more m hl, e12.more m hl hf hn hi hR⟩
theorem RelP.Wf.uses_le (h : R.Wf) {q : ReqP} (hq : q ∈ R.reqs) : (∀ i ∈ q.uses, i ≤ R.made) ∧ q.fresh ≤ R.made := by
  obtain ⟨-, -, -, -, -, -, -, g8, g9, -⟩ := h.req q hq
  have h1 : ∀ i ∈ q.uses, i ≤ R.made := fun i hi => by
    obtain ⟨l, hl, e⟩ := g8 i hi
    have := (h.link l hl).2.1
    omega
  refine ⟨h1, ?_⟩
  by_cases e : q.fresh = 0
  · omega
  · exact h1 _ (g9 e)
/-- The relay with a link more. -/
def RelP.more (R : RelP) (n fid num : Nat) : RelP := { R with made := R.made + 1, links := R.links ++ [⟨R.made + 1, n, fid, num, false⟩] }
def Gh.link (G : Gh) (nb i : Nat) : Gh := { G with F := nb :: G.F, lb := fun j => if j = i then nb else G.lb j }
theorem Gh.link_more (G : Gh) (nb made : Nat) : G.More (G.link nb (made + 1)) made :=
  ⟨fun _ h => List.mem_cons_of_mem _ h, fun i hi => if_neg (by omega), fun _ _ => rfl⟩
theorem RelP.Wf.more (h : R.Wf) {n fid num : Nat} (h1 : 1 ≤ n) (h2 : n ≤ R.clients.length) (h3 : fid < 4294967295) (h4 : num < R.fids) (h5 : R.link n fid = none) (h6 : ∀ l ∈ R.links, l.num ≠ num) : (R.more n fid num).Wf := by
  refine ⟨h.msize, h.fids, h.tags, h.many, h.cli, fun l hl => ?_, ?_, fun q hq => ?_, h.reqs, fun q hq => Nat.le_trans (h.names q hq) (Nat.le_succ _)⟩
  · rcases List.mem_append.1 hl with hl | hl
    · obtain ⟨g1, g2, g3⟩ := h.link l hl
      exact ⟨g1, Nat.le_trans g2 (Nat.le_succ _), g3⟩
    · simp at hl
      subst hl
      exact ⟨Nat.succ_pos _, Nat.le_refl _, h1, h2, h3, h4⟩
  · show (R.links ++ [_]).Pairwise _
    rw [List.pairwise_append]
    refine ⟨h.links, List.pairwise_singleton _ _, fun l hl k hk => ?_⟩
    simp at hk
    subst hk
    refine ⟨?_, h6 l hl, fun ⟨e1, e2⟩ => ?_⟩
    · have := (h.link l hl).2.1
      show l.id ≠ R.made + 1
      omega
    · unfold RelP.link at h5
      rw [List.find?_eq_none] at h5
      exact h5 l hl (by simp [show l.client = n from e1, show l.fid = fid from e2])
  · obtain ⟨g1, g2, g3, g4, g5, g6, g7, g8, g9⟩ := h.req q hq
    refine ⟨g1, Nat.le_trans g2 (Nat.le_succ _), g3, g4, g5, g6, g7, fun i hi => ?_, g9⟩
    obtain ⟨l, hl, e⟩ := g8 i hi
    exact ⟨l, List.mem_append.2 (Or.inl hl), e⟩
/-- A link more stands in the map. -/
theorem IsRel.more {n fid num nb : Nat} (h : IsRel w r R U G vo) (hU : U (R.made + 1) = 0) (h1 : 1 ≤ n) (h2 : n ≤ R.clients.length) (h3 : fid < 4294967295) (h4 : num < R.fids) (h5 : R.link n fid = none) (h6 : ∀ l ∈ R.links, l.num ≠ num)
    (hn : w'.heap[nb]? = some (.cells #[.int .u32 (num : Int), .bool false, .int .i64 0] 148 (0, 0))) (hm : Mods [G.mb] w w') (hnb : w.heap.size ≤ nb) (hM : PMap KP w' G.mb (linkM R G ++ [(((n : Int), fid), nb)])) :
    IsRel w' r (R.more n fid num) U (G.link nb (R.made + 1)) vo := by
  obtain ⟨es, cl, hub⟩ : ∃ es c, w.heap[G.mb]? = some (.map es c) := by
    obtain ⟨D, ⟨es, clock, h1, _⟩, _⟩ := h.links
    exact ⟨es, clock, h1⟩
  have hc : ∀ T, KeepC T G.F w w' := fun T => KeepC.map hub hm
  have m := G.link_more nb R.made
  have hlb : ∀ l ∈ R.links, (G.link nb (R.made + 1)).lb l.id = G.lb l.id := fun l hl => m.lb _ (h.wf.link l hl).2.1
  have hnew : (G.link nb (R.made + 1)).lb (R.made + 1) = nb := if_pos rfl
  have hnF : nb ∉ G.F := fun e => by
    have := h.lt _ e
    omega
  refine ⟨h.wf.more h1 h2 h3 h4 h5 h6, ⟨m.sub _ h.here.1, m.sub _ h.here.2.1, m.sub _ h.here.2.2.1, m.sub _ h.here.2.2.2⟩, fun k hk => ?_, (hc 0).cells _ _ _ _ h.here.1 (by decide) h.cells, ⟨h.row.1, h.row.2.1, ?_⟩,
    fun i c hi => ((h.cli i c hi).keepT (hc 0) (by decide) (by decide)).more m, h.cbi, ?_, fun l hl => ?_, fun l hl k hk e => ?_, h.under.mods hm (by simpa using h.apart.symm),
    fun q hq => ((h.req q hq).keepT (hc 0) (by decide) (by decide) (by decide) (by decide) (by decide) (by decide) (by decide)).more m (h.wf.uses_le hq).1 (h.wf.uses_le hq).2 (h.wf.names q hq) (fun p hp => (h.wf.req p hp).2.1) (h.wf.req q hq).2.1 (fun p hp => Or.inl hp), h.rbi, h.apart⟩
  · rcases List.mem_cons.1 hk with rfl | hk
    · exact (Array.getElem?_eq_some_iff.1 hn).1
    · exact Nat.lt_of_lt_of_le (h.lt k hk) hm.size
  · obtain ⟨cur, h1, h2⟩ := h.row.2.2
    exact ⟨cur, (hc 0).cells _ _ _ _ h.here.2.1 (by decide) h1, h2⟩
  · have e : (R.more n fid num).links.map (fun l => (((l.client : Int), l.fid), (G.link nb (R.made + 1)).lb l.id)) = linkM R G ++ [(((n : Int), fid), nb)] := by
      show (R.links ++ [_]).map _ = _
      rw [List.map_append]
      congr 1
      · exact List.map_congr_left fun l hl => by rw [hlb l hl]
      · simp [hnew]
    rw [e]
    exact hM
  · rcases List.mem_append.1 hl with hl | hl
    · rw [hlb l hl]
      exact ⟨m.sub _ (h.link l hl).1, (hc 0).cells _ _ _ _ (h.link l hl).1 (by decide) (h.link l hl).2⟩
    · simp at hl
      subst hl
      refine ⟨by rw [hnew]; exact List.mem_cons_self, ?_⟩
      rw [hnew, hU]
      exact hn
  · rcases List.mem_append.1 hl with hl | hl
    · rcases List.mem_append.1 hk with hk | hk
      · rw [hlb l hl, hlb k hk] at e
        exact h.lbi l hl k hk e
      · simp at hk
        subst hk
        rw [hlb l hl, hnew] at e
        exact absurd (e ▸ (h.link l hl).1) hnF
    · simp at hl
      subst hl
      rcases List.mem_append.1 hk with hk | hk
      · rw [hlb k hk, hnew] at e
        exact absurd (e ▸ (h.link k hk).1) hnF
      · simp at hk
        subst hk
        rfl
theorem Draft.more {b n : Nat} {cs : Array Value} {uses : List Nat} {vu : Value} (hd : Draft w G b cs n uses vu) (hm : Mods [G.mb] w w') (hmb : G.mb ∈ G.F) (m : G.More G' made) (hnew : ∀ k ∈ G'.F, k ∈ G.F ∨ w.heap.size ≤ k) (hl : ∀ i ∈ uses, i ≤ made) : Draft w' G' b cs n uses vu := by
  have hbl : b < w.heap.size := (Array.getElem?_eq_some_iff.1 hd.row).1
  refine ⟨hm.heap hd.row (fun e => hd.out (by simp at e; rw [e]; exact hmb)), hd.size, hd.client, hd.held, ?_, fun hb => ?_, fun k hk hk' => ?_⟩
  · rw [ptrs_more m hl]
    exact ownsRow_mods hd.list hm (fun k hk e => hd.outs k hk (by simp at e; rw [e]; exact hmb))
  · rcases hnew b hb with h1 | h1
    · exact hd.out h1
    · omega
  · have := (hd.list.lt k hk).2
    rcases hnew k hk' with h1 | h1
    · exact hd.outs k hk h1
    · omega
theorem least_some {i : Nat} (h : R.least = some i) : i < R.fids ∧ ∀ l ∈ R.links, l.num ≠ i := by
  unfold RelP.least at h
  rw [List.find?_range_eq_some] at h
  obtain ⟨h1, h2, -⟩ := h
  refine ⟨by simpa using h2, fun l hl => ?_⟩
  rw [List.all_eq_true] at h1
  simpa using h1 l hl
theorem link_more {n fid i : Nat} (h : R.link n fid = none) : (R.more n fid i).link n fid = some ⟨R.made + 1, n, fid, i, false⟩ := by
  unfold RelP.link RelP.more at *
  rw [List.find?_append, h]
  simp
set_option maxRecDepth 100000 in
set_option maxHeartbeats 2000000 in
theorem fresh_any (h : IsRel w r R U G vo) (hU : U (R.made + 1) = 0) {b n : Nat} {cs : Array Value} {uses : List Nat} {vu : Value} (hd : Draft w G b cs n uses vu) (hu : uses.length ≤ 2) (hul : ∀ i ∈ uses, i ≤ R.made) (hn1 : 1 ≤ n) (hn : n ≤ R.clients.length) (fid : Nat) (hf : fid < 4294967296) :
    Calls Tryz.prog 84 #[.pointer (some ⟨r, 0, none⟩), .pointer (some ⟨b, 0, none⟩), .int .u32 (fid : Int)] w fun e w' =>
      (R.fresh n fid = none ∧ e = .returned (.tuple #[.int .u32 0, .pointer none, .bool false]) ∧ Mods [] w w') ∨
      (∃ R' num id, R.fresh n fid = some (R', num, id) ∧ ∃ G' vu', e = .returned (.tuple #[.int .u32 ((num : Nat) : Int), .pointer (if id = 0 then none else some ⟨G'.lb id, 0, none⟩), .bool true]) ∧ IsRel w' r R' U G' vo ∧ Draft w' G' b (cs.setIfInBounds 40 vu') n (addUse uses id) vu' ∧
        G.More G' R.made ∧ (∀ k ∈ G'.F, k ∈ G.F ∨ w.heap.size ≤ k) ∧ Mods (G.mb :: b :: vu.ownBlock.toList) w w' ∧ (∀ k, vu'.ownBlock = some k → vu.ownBlock = some k ∨ w.heap.size ≤ k)) := by
  have hn16 : n ≤ 16 := Nat.le_trans hn h.wf.many.2
  by_cases e1 : fid = 4294967295
  · subst e1
    have HE : Hid (R.fresh n 4294967295 = some (R, 4294967295, 0)) := Lib.hid (by unfold RelP.fresh; rw [if_pos rfl])
    have HD := Lib.hid hd
    have H := Lib.hid h
    have HS := Lib.hid (hd.same)
    clear h hd hU hul
    go_enter Tryz.func84, Tryz.ntmps84
    go_wp2_with fail
    go_ret3
    exact Or.inr ⟨R, 4294967295, 0, HE.out, G, vu, rfl, H.out, by rw [HS.out, addUse_none]; exact HD.out, Gh.More.refl, fun k hk => Or.inl hk, Mods.refl _ _, fun k hk => Or.inl hk⟩
  · have b1 : ((fid : Int) == 4294967295) = false := by simpa using (by omega : ¬ (fid : Int) = 4294967295)
    have c36 : w.cell? ⟨b, 36, none⟩ = some (.int .i64 (n : Int)) := by rw [cell_of_row _ _ _ _ _ _ hd.row]; exact hd.client
    have hm1 := (Mods.refl [] w).alloc (.cells #[.int .i64 (n : Int), .int .u32 (fid : Int)] 92)
    generalize hw1 : w.alloc (.cells #[.int .i64 (n : Int), .int .u32 (fid : Int)] 92) = w1 at hm1
    have hpb : w1.heap[w.heap.size]? = some (.cells #[.int .i64 (n : Int), .int .u32 (fid : Int)] 92 (0, 0)) := by rw [← hw1]; exact heap_alloc_new _ _
    have hrel := h.still hm1.drew
    have hrel2 := h.still hm1.drew.drew
    have p0 : w1.drew.cell? ⟨w.heap.size, 0, none⟩ = some (.int .i64 (n : Int)) := by rw [cell_of_row _ _ _ _ _ _ ((Mods.refl [] w1).drew.heap hpb (by simp))]; rfl
    have p1 : w1.drew.cell? ⟨w.heap.size, 1, none⟩ = some (.int .u32 (fid : Int)) := by rw [cell_of_row _ _ _ _ _ _ ((Mods.refl [] w1).drew.heap hpb (by simp))]; rfl
    have p0' : w1.drew.drew.cell? ⟨w.heap.size, 0, none⟩ = some (.int .i64 (n : Int)) := p0
    have p1' : w1.drew.drew.cell? ⟨w.heap.size, 1, none⟩ = some (.int .u32 (fid : Int)) := p1
    have hd1 : Draft w1.drew G b cs n uses vu := hd.more (w' := w1.drew) (G' := G) (hm1.drew.mono (by simp)) h.here.2.2.1 Gh.More.refl (fun k hk => Or.inl hk) hul
    have c4 : w1.drew.cell? ⟨r, 4, none⟩ = some (.map (some G.mb)) := hrel.cell 4
    have c4' : w1.drew.drew.cell? ⟨r, 4, none⟩ = some (.map (some G.mb)) := hrel2.cell 4
    have hlk := hrel.links.look Tryz.underlying77 (zero146 _) ((n : Int), fid) (place_ok n fid hn16 hf)
    change (Instr.lookup 77 (.map (some G.mb)) (.agg #[.int .i64 (n : Int), .int .u32 (fid : Int)]) false).run Tryz.prog w1.drew = .ok (ptV (Me.look (linkM R G) ((n : Int), fid))) w1.drew at hlk
    rw [link_look] at hlk
    have hlk2 := hrel2.links.look Tryz.underlying77 (zero146 _) ((n : Int), fid) (place_ok n fid hn16 hf)
    change (Instr.lookup 77 (.map (some G.mb)) (.agg #[.int .i64 (n : Int), .int .u32 (fid : Int)]) false).run Tryz.prog w1.drew.drew = .ok (ptV (Me.look (linkM R G) ((n : Int), fid))) w1.drew.drew at hlk2
    rw [link_look] at hlk2
    have HD := Lib.hid hd
    have HD1 := Lib.hid hd1
    have H := Lib.hid h
    have HPB := Lib.hid hpb
    have HM1 := Lib.hid hm1
    have HREL := Lib.hid hrel
    cases e2 : R.link n fid with
    | some l =>
      obtain ⟨hl, -, -⟩ := link_mem e2
      have hlid := (h.wf.link l hl).1
      have HE : Hid (R.fresh n fid = some (R, l.num, l.id)) := Lib.hid (by unfold RelP.fresh; rw [if_neg e1, e2])
      rw [e2] at hlk hlk2
      simp only [Option.map_some, ptV] at hlk hlk2
      clear h hd hrel hrel2 hd1 hpb hm1
      go_enter Tryz.func84, Tryz.ntmps84
      go_wp2_with fail
      go_region
      go_wp2_with fail
      go_region
      generalize hw2 : w1.drew.drew = w2 at *
      have HD2 : Hid (Draft w2 G b cs n uses vu) := Lib.hid (by rw [← hw2]; exact ⟨HD1.out.row, HD1.out.size, HD1.out.client, HD1.out.held, HD1.out.list, HD1.out.out, HD1.out.outs⟩)
      have HR2 : Hid (IsRel w2 r R U G vo) := Lib.hid (by rw [← hw2]; exact HREL.out.still (Mods.refl [] _).drew)
      have HL := Lib.hid hl
      have HMORE : Hid (G.More G R.made) := Lib.hid Gh.More.refl
      have HNEW : Hid (∀ k ∈ G.F, k ∈ G.F ∨ w.heap.size ≤ k) := Lib.hid (fun k hk => Or.inl hk)
      have HM2 : Hid (Mods [G.mb] w w2) := Lib.hid (by rw [← hw2]; exact (HM1.out.drew.drew).mono (by simp))
      clear c4 c4' hlk hlk2 p0 p1 p0' p1' hw2
      obtain ⟨A, c, rfl, -⟩ := ownsRow_slice HD2.out.list
      obtain ⟨i0, hi, hz0, hz1, hz2⟩ := info_parts info146
      have c40 : w2.cell? ⟨b, 40, none⟩ = some (.slice A uses.length c) := by rw [cell_of_row _ _ _ _ _ _ HD2.out.row]; exact HD2.out.held
      go_wp2_with (at_builtin; go_must (refine wpList_app _ rfl _ _ 112 112 rfl 0 146 i0 (.pointer none) 1 8 Tryz.underlying112 hi hz0 hz1 hz2 rfl _ _ _ rfl (HD2.out.list.alloc _) _ 1 [.pointer (some ⟨G.lb l.id, 0, none⟩)] rfl (src_one Tryz.underlying112 w2 _ _ rfl) (by unfold maxLen; omega) (by omega) (Nat.zero_le _) ?_))
      intro v' w3 hown hgrow hat
      obtain ⟨A', c', rfl, -⟩ := ownsRow_slice hown
      have hm3 : Mods (Value.slice A uses.length c).ownBlock.toList w2 w3 := ((Mods.refl _ w2).alloc _).grown hgrow (fun k hk => Or.inl (by simp [hk]))
      have hat' : ∀ k, (Value.slice A' (uses.length + 1) c').ownBlock = some k → (Value.slice A uses.length c).ownBlock = some k ∨ w2.heap.size ≤ k := fun k hk => (hat.imp (fun e => by rw [← e]; exact hk) (fun e => by rw [hk] at e; have := Option.some.inj e; omega))
      have hg := HD2.out.grow hm3 (fun k hk => HR2.out.lt k hk) hown hat'
      have f40 : w3.frozen? ⟨b, 40, none⟩ = false := frozen_of_row _ _ _ _ _ hg.1
      have d40 : w3.cell? ⟨b, 40, none⟩ = some (.slice A uses.length c) := by rw [cell_of_row _ _ _ _ _ _ hg.1]; exact HD2.out.held
      have hrel4 : IsRel (w3.setCell ⟨b, 40, none⟩ (Value.slice A' (uses.length + 1) c')) r R U G vo := HR2.out.mods hg.2.2 (fun k hk hk' => by
        simp at hk'
        rcases hk' with rfl | hk'
        · exact HD2.out.out hk
        · exact HD2.out.outs k hk' hk)
      have k0 : (w3.setCell ⟨b, 40, none⟩ (Value.slice A' (uses.length + 1) c')).cell? ⟨G.lb l.id, 0, none⟩ = some (.int .u32 (l.num : Int)) := by
        have := link_cell hrel4 HL.out 0
        exact this
      have HG := Lib.hid hg
      have HR4 := Lib.hid hrel4
      have HAT := Lib.hid hat'
      clear hg hrel4 hm3 hat' hown hgrow hat
      go_wp2_with fail
      go_ret3
      refine Or.inr ⟨R, l.num, l.id, HE.out, G, _, ?_, HR4.out, by rw [addUse_some _ (by omega)]; exact HG.out.2.1, HMORE.out, HNEW.out, ?_, ?_⟩
      · rw [if_neg (by omega)]
        rfl
      · exact (HM2.out.mono (fun k hk => Or.inl (by simp at hk; simp [hk]))).trans HG.out.2.2 (fun k hk => Or.inl (List.mem_cons_of_mem _ hk))
      · exact fun k hk => (HAT.out k hk).imp id (fun h => Nat.le_trans HM2.out.size h)
    | none =>
      rw [e2] at hlk hlk2
      simp only [Option.map_none, ptV] at hlk hlk2
      have HLE := Lib.hid (least_any hrel)
      clear h hd hrel hrel2 hd1 hpb hm1 c4' p0' p1' hlk2
      go_enter Tryz.func84, Tryz.ntmps84
      go_wp2_with fail
      go_region
      go_wp2_with fail
      refine HLE.out.mono ?_
      rintro e w2' ⟨rfl, hm2⟩
      cases e3 : R.least with
      | none =>
        have HE : Hid (R.fresh n fid = none) := Lib.hid (by unfold RelP.fresh; rw [if_neg e1, e2]; simp only [e3])
        have HM2 : Hid (Mods [] w w2') := Lib.hid ((HM1.out.drew).trans hm2 (by simp))
        clear hm2
        simp only [Option.getD_none, Option.isSome_none]
        go_wp2_with fail
        go_ret3
        exact Or.inl ⟨HE.out, rfl, HM2.out⟩
      | some i =>
        have HE : Hid (R.fresh n fid = some (R.more n fid i, i, R.made + 1)) := Lib.hid (by unfold RelP.fresh; rw [if_neg e1, e2]; simp only [e3]; rfl)
        have hm3 := hm2.drew
        have hrel3 := HREL.out.still hm3
        have hp3 := hm3.heap ((Mods.refl [] w1).drew.heap HPB.out (by simp)) (by simp)
        clear p0 p1 c4
        have p0 : w2'.drew.cell? ⟨w.heap.size, 0, none⟩ = some (.int .i64 (n : Int)) := by rw [cell_of_row _ _ _ _ _ _ hp3]; rfl
        have p1 : w2'.drew.cell? ⟨w.heap.size, 1, none⟩ = some (.int .u32 (fid : Int)) := by rw [cell_of_row _ _ _ _ _ _ hp3]; rfl
        have c4 : w2'.drew.cell? ⟨r, 4, none⟩ = some (.map (some G.mb)) := hrel3.cell 4
        have hpl : w.heap.size < w2'.heap.size := (Array.getElem?_eq_some_iff.1 hp3).1
        have HM2 : Hid (Mods [] w w2') := Lib.hid ((HM1.out.drew).trans hm2 (by simp))
        have HREL3 := Lib.hid hrel3
        have HP3 := Lib.hid hp3
        clear hm2 hm3 hrel3 hp3
        simp only [Option.getD_some, Option.isSome_some]
        go_wp2_with fail
        have hm4 := (Mods.refl [] w2').alloc (.cells #[.int .u32 (i : Int), .bool false, .int .i64 0] 148)
        have hrel4 := HREL3.out.undrew.still hm4.drew
        have hp4 := hm4.drew.heap (show w2'.heap[w.heap.size]? = _ from HP3.out) (by simp)
        have hnb : (w2'.alloc (.cells #[.int .u32 (i : Int), .bool false, .int .i64 0] 148)).drew.heap[w2'.heap.size]? = some (.cells #[.int .u32 (i : Int), .bool false, .int .i64 0] 148 (0, 0)) := heap_alloc_new _ _
        have q0 : (w2'.alloc (.cells #[.int .u32 (i : Int), .bool false, .int .i64 0] 148)).drew.cell? ⟨w.heap.size, 0, none⟩ = some (.int .i64 (n : Int)) := by rw [cell_of_row _ _ _ _ _ _ hp4]; rfl
        have q1 : (w2'.alloc (.cells #[.int .u32 (i : Int), .bool false, .int .i64 0] 148)).drew.cell? ⟨w.heap.size, 1, none⟩ = some (.int .u32 (fid : Int)) := by rw [cell_of_row _ _ _ _ _ _ hp4]; rfl
        have q4 : (w2'.alloc (.cells #[.int .u32 (i : Int), .bool false, .int .i64 0] 148)).drew.cell? ⟨r, 4, none⟩ = some (.map (some G.mb)) := hrel4.cell 4
        have hlen : (linkM R G).length < maxLen := by
          have h1 := H.out.wf.links_le
          have h2 := H.out.wf.fids.2
          unfold linkM
          rw [List.length_map]
          unfold maxLen
          omega
        have hnone : ∀ e ∈ linkM R G, e.1 ≠ ((n : Int), fid) := by
          intro e he h'
          obtain ⟨l, hl, rfl⟩ := List.mem_map.1 he
          unfold RelP.link at e2
          rw [List.find?_eq_none] at e2
          have h3 := e2 l hl
          simp only [Prod.mk.injEq] at h'
          have h4 : l.client = n := by omega
          simp [h4, h'.2] at h3
        obtain ⟨w5, hput, hM5, hm5, hs5⟩ := hrel4.links.run_put Tryz.underlying77 hlen ((n : Int), fid) (place_ok n fid hn16 hf) hnone w2'.heap.size
        change (Instr.mapUpdate 77 (.map (some G.mb)) (.agg #[.int .i64 (n : Int), .int .u32 (fid : Int)]) (.pointer (some ⟨w2'.heap.size, 0, none⟩))).run Tryz.prog (w2'.alloc (.cells #[.int .u32 (i : Int), .bool false, .int .i64 0] 148)).drew = .ok () w5 at hput
        obtain ⟨hi1, hi2⟩ := least_some e3
        have hmb := H.out.here.2.2.1
        have hmlt := H.out.lt _ hmb
        have hn5 := hm5.heap hnb (by simp; omega)
        have hp5 := hm5.heap hp4 (by simp; omega)
        have hm45 : Mods [G.mb] w2' w5 := (hm4.drew.mono (by simp)).trans hm5 (fun b hb => Or.inl hb)
        have hrel5 := HREL3.out.undrew.more hU hn1 hn (by omega) hi1 e2 hi2 hn5 hm45 (Nat.le_refl _) hM5
        have hmore := G.link_more w2'.heap.size R.made
        have hnew : ∀ k ∈ (G.link w2'.heap.size (R.made + 1)).F, k ∈ G.F ∨ w.heap.size ≤ k := fun k hk => (List.mem_cons.1 hk).symm.imp id (fun e => by omega)
        have hme : (R.more n fid i).link n fid = some ⟨R.made + 1, n, fid, i, false⟩ := link_more e2
        have hd5 : Draft w5.drew (G.link w2'.heap.size (R.made + 1)) b cs n uses vu := HD.out.more ((HM2.out.mono (by simp)).trans hm45 (fun b hb => Or.inl hb)).drew hmb hmore hnew hul
        generalize hG' : G.link w2'.heap.size (R.made + 1) = G' at hrel5 hmore hnew hd5
        generalize hR' : R.more n fid i = R' at hrel5 hme
        have hl5 := (hrel5.still (Mods.refl [] w5).drew).links.look Tryz.underlying77 (zero146 _) ((n : Int), fid) (place_ok n fid hn16 hf)
        have emb : G'.mb = G.mb := by rw [← hG']; rfl
        rw [emb] at hl5
        change (Instr.lookup 77 (.map (some G.mb)) (.agg #[.int .i64 (n : Int), .int .u32 (fid : Int)]) false).run Tryz.prog w5.drew = .ok (ptV (Me.look (linkM R' G') ((n : Int), fid))) w5.drew at hl5
        rw [link_look, hme] at hl5
        simp only [Option.map_some, ptV] at hl5
        have r0 : w5.drew.cell? ⟨w.heap.size, 0, none⟩ = some (.int .i64 (n : Int)) := by rw [cell_of_row _ _ _ _ _ _ ((Mods.refl [] w5).drew.heap hp5 (by simp))]; rfl
        have r1 : w5.drew.cell? ⟨w.heap.size, 1, none⟩ = some (.int .u32 (fid : Int)) := by rw [cell_of_row _ _ _ _ _ _ ((Mods.refl [] w5).drew.heap hp5 (by simp))]; rfl
        have r4 : w5.drew.cell? ⟨r, 4, none⟩ = some (.map (some G.mb)) := by rw [← emb]; exact (hrel5.still (Mods.refl [] w5).drew).cell 4
        have HD2' := Lib.hid hd5
        have HR2' := Lib.hid (hrel5.still (Mods.refl [] w5).drew)
        have HL : Hid ((⟨R.made + 1, n, fid, i, false⟩ : LinkP) ∈ R'.links) := Lib.hid (link_mem hme).1
        have HMORE := Lib.hid hmore
        have HNEW := Lib.hid hnew
        have HM2' : Hid (Mods [G.mb] w w5.drew) := Lib.hid (((HM2.out.mono (by simp)).trans hm45 (fun b hb => Or.inl hb)).drew)
        rw [hR'] at HE
        clear hm4 hrel4 hp4 hnb hlen hnone hM5 hm5 hs5 hi1 hi2 hn5 hp5 hm45 hrel5 hmore hnew hme hd5 hG' hR' hmb hmlt
        go_region
        go_wp2_with fail
        go_region
        generalize w5.drew = w2 at *
        have HD2 := HD2'
        have HR2 := HR2'
        have HM2 := HM2'
        clear c4 hlk p0 p1 q0 q1 q4 hput r0 r1 r4 hl5 hpl
        obtain ⟨A, c, rfl, -⟩ := ownsRow_slice HD2.out.list
        obtain ⟨i0, hi, hz0, hz1, hz2⟩ := info_parts info146
        have c40 : w2.cell? ⟨b, 40, none⟩ = some (.slice A uses.length c) := by rw [cell_of_row _ _ _ _ _ _ HD2.out.row]; exact HD2.out.held
        go_wp2_with (at_builtin; go_must (refine wpList_app _ rfl _ _ 112 112 rfl 0 146 i0 (.pointer none) 1 8 Tryz.underlying112 hi hz0 hz1 hz2 rfl _ _ _ rfl (HD2.out.list.alloc _) _ 1 [.pointer (some ⟨G'.lb (R.made + 1), 0, none⟩)] rfl (src_one Tryz.underlying112 w2 _ _ rfl) (by unfold maxLen; omega) (by omega) (Nat.zero_le _) ?_))
        intro v' w3 hown hgrow hat
        obtain ⟨A', c', rfl, -⟩ := ownsRow_slice hown
        have hm3 : Mods (Value.slice A uses.length c).ownBlock.toList w2 w3 := ((Mods.refl _ w2).alloc _).grown hgrow (fun k hk => Or.inl (by simp [hk]))
        have hat' : ∀ k, (Value.slice A' (uses.length + 1) c').ownBlock = some k → (Value.slice A uses.length c).ownBlock = some k ∨ w2.heap.size ≤ k := fun k hk => (hat.imp (fun e => by rw [← e]; exact hk) (fun e => by rw [hk] at e; have := Option.some.inj e; omega))
        have hg := HD2.out.grow hm3 (fun k hk => HR2.out.lt k hk) hown hat'
        have f40 : w3.frozen? ⟨b, 40, none⟩ = false := frozen_of_row _ _ _ _ _ hg.1
        have d40 : w3.cell? ⟨b, 40, none⟩ = some (.slice A uses.length c) := by rw [cell_of_row _ _ _ _ _ _ hg.1]; exact HD2.out.held
        have hrel4 : IsRel (w3.setCell ⟨b, 40, none⟩ (Value.slice A' (uses.length + 1) c')) r R' U G' vo := HR2.out.mods hg.2.2 (fun k hk hk' => by
          simp at hk'
          rcases hk' with rfl | hk'
          · exact HD2.out.out hk
          · exact HD2.out.outs k hk' hk)
        have k0 : (w3.setCell ⟨b, 40, none⟩ (Value.slice A' (uses.length + 1) c')).cell? ⟨G'.lb (R.made + 1), 0, none⟩ = some (.int .u32 (i : Int)) := by
          have := link_cell hrel4 HL.out 0
          exact this
        have HG := Lib.hid hg
        have HR4 := Lib.hid hrel4
        have HAT := Lib.hid hat'
        clear hg hrel4 hm3 hat' hown hgrow hat
        go_wp2_with fail
        go_ret3
        refine Or.inr ⟨R', i, R.made + 1, HE.out, G', _, ?_, HR4.out, by rw [addUse_some _ (by omega)]; exact HG.out.2.1, HMORE.out, HNEW.out, ?_, ?_⟩
        · rw [if_neg (by omega)]
          rfl
        · exact (HM2.out.mono (fun k hk => Or.inl (by simp at hk; simp [hk]))).trans HG.out.2.2 (fun k hk => Or.inl (List.mem_cons_of_mem _ hk))
        · exact fun k hk => (HAT.out k hk).imp id (fun h => Nat.le_trans HM2.out.size h)
end
end Go.Proofs.YtlgoeipgmjcboaaGreatDoor
