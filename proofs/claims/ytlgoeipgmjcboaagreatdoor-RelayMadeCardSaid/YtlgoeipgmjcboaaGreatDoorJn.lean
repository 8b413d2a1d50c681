/- comes$1: a reply, and what becomes of links by it. -/
import Derived.Test.YtlgoeipgmjcboaaGreatDoorJl
namespace Go.Proofs.YtlgoeipgmjcboaaGreatDoor
open Go.RowKit Me
namespace RelP
/-- A link is real, or is not. -/
def setReal (R : RelP) (id : Nat) (v : Bool) : RelP := { R with links := R.links.map fun k => if k.id = id then { k with real := v } else k }
def unreal (R : RelP) (l : List Nat) : RelP := l.foldl (fun R i => R.setReal i false) R
theorem unreal_links (l : List Nat) : ∀ R : RelP, R.unreal l = { R with links := R.links.map fun k => if k.id ∈ l then { k with real := false } else k } := by
  induction l with
  | nil => intro R; simp [unreal]
  | cons i l ih =>
    intro R
    have e : R.unreal (i :: l) = (R.setReal i false).unreal l := rfl
    rw [e, ih]
    unfold setReal
    simp only [List.map_map, RelP.mk.injEq, true_and, and_true]
    refine List.map_congr_left fun k _ => ?_
    simp only [Function.comp]
    by_cases h : k.id = i
    · simp [h]
    · by_cases h' : k.id ∈ l <;> simp [h, h']
theorem marks_unreal (R : RelP) (q : ReqP) (m : MsgP) (h : q.kind = 120 ∨ q.kind = 122) : R.marks q m = R.unreal q.uses := by
  rw [unreal_links]
  unfold marks
  simp only [RelP.mk.injEq, true_and, and_true]
  refine List.map_congr_left fun k _ => ?_
  by_cases h' : k.id ∈ q.uses
  · rw [if_pos ⟨h, h'⟩, if_pos h']
  · rw [if_neg (fun x => h' x.2), if_neg h', if_neg]
    rintro ⟨_, _, h3⟩
    rcases h with h | h <;> (rw [h] at h3; omega)
theorem marks_not (R : RelP) (q : ReqP) (m : MsgP) (h : ¬ (q.kind = 120 ∨ q.kind = 122)) (h2 : ∀ l ∈ R.links, l.id = q.fresh → ¬ (m.kind ≠ 107 ∧ (q.kind = 102 ∨ q.kind = 104 ∨ q.kind = 110 ∧ m.qids.length = q.many))) : R.marks q m = R := by
  unfold marks
  have : (R.links.map fun l => if (q.kind = 120 ∨ q.kind = 122) ∧ l.id ∈ q.uses then { l with real := false }
      else if l.id = q.fresh ∧ m.kind ≠ 107 ∧ (q.kind = 102 ∨ q.kind = 104 ∨ q.kind = 110 ∧ m.qids.length = q.many) then { l with real := true } else l) = R.links := by
    conv => rhs; rw [← List.map_id R.links]
    refine List.map_congr_left fun k hk => ?_
    rw [if_neg (fun x => h x.1), if_neg (fun x => h2 k hk x.1 x.2)]
    rfl
  rw [this]
theorem marks_real (R : RelP) (q : ReqP) (m : MsgP) (h : ¬ (q.kind = 120 ∨ q.kind = 122)) (h2 : m.kind ≠ 107 ∧ (q.kind = 102 ∨ q.kind = 104 ∨ q.kind = 110 ∧ m.qids.length = q.many)) : R.marks q m = R.setReal q.fresh true := by
  unfold marks setReal
  simp only [RelP.mk.injEq, true_and, and_true]
  refine List.map_congr_left fun k hk => ?_
  rw [if_neg (fun x => h x.1)]
  by_cases e : k.id = q.fresh
  · rw [if_pos ⟨e, h2⟩, if_pos e]
  · rw [if_neg (fun x => e x.1), if_neg e]
end RelP
section
variable {w w' : World} {r : Nat} {R : RelP} {U : Nat → Nat} {G : Gh} {vo : Value}
theorem setReal_link {R : RelP} {id : Nat} {v : Bool} {k : LinkP} (h : k ∈ (R.setReal id v).links) : ∃ l ∈ R.links, k.id = l.id ∧ k.client = l.client ∧ k.fid = l.fid ∧ k.num = l.num ∧ k.real = if l.id = id then v else l.real := by
  obtain ⟨l, hl, rfl⟩ := List.mem_map.1 h
  refine ⟨l, hl, ?_⟩
  by_cases e : l.id = id <;> simp [e]
theorem RelP.Wf.setReal (h : R.Wf) (id : Nat) (v : Bool) : (R.setReal id v).Wf := by
  refine ⟨h.msize, h.fids, h.tags, h.many, h.cli, fun l hl => ?_, ?_, fun q hq => ?_, h.reqs, h.names⟩
  · obtain ⟨k, hk, e1, e2, e3, e4, -⟩ := setReal_link hl
    rw [e1, e2, e3, e4]
    exact h.link k hk
  · show (R.links.map _).Pairwise _
    rw [List.pairwise_map]
    refine h.links.imp fun {a b} hab => ?_
    by_cases e1 : a.id = id <;> by_cases e2 : b.id = id <;> simp only [e1, e2, if_true, if_false] at hab ⊢ <;> exact hab
  · obtain ⟨g1, g2, g3, g4, g5, g6, g7, g8, g9⟩ := h.req q hq
    refine ⟨g1, g2, g3, g4, g5, g6, g7, fun i hi => ?_, g9⟩
    obtain ⟨l, hl, e⟩ := g8 i hi
    refine ⟨_, List.mem_map.2 ⟨l, hl, rfl⟩, ?_⟩
    by_cases e1 : l.id = id <;> simpa [e1] using e
/-- A link is made real, or unreal. -/
theorem IsRel.setReal (h : IsRel w r R U G vo) {l : LinkP} (hl : l ∈ R.links) (v : Bool) : IsRel (w.setCell ⟨G.lb l.id, 1, none⟩ (.bool v)) r (R.setReal l.id v) U G vo ∧ KeepC 148 G.F w (w.setCell ⟨G.lb l.id, 1, none⟩ (.bool v)) := by
  have hk : KeepT 148 G.F w (w.setCell ⟨G.lb l.id, 1, none⟩ (.bool v)) := KeepT.set (h.link l hl).2
  have hM : (R.setReal l.id v).links.map (fun l => (((l.client : Int), l.fid), G.lb l.id)) = linkM R G := by
    unfold RelP.setReal linkM
    rw [List.map_map]
    refine List.map_congr_left fun k _ => ?_
    by_cases e : k.id = l.id <;> simp [e]
  refine ⟨⟨h.wf.setReal _ _, h.here, fun k hk' => Nat.lt_of_lt_of_le (h.lt k hk') hk.size, hk.cells _ _ _ _ h.here.1 (by decide) h.cells, ⟨h.row.1, h.row.2.1, ?_⟩, fun i c hc => (h.cli i c hc).keepT hk.toKeepC (by decide) (by decide), h.cbi, by rw [hM]; exact PMap.keepT h.links h.here.2.2.1 hk, fun p hp => ?_, fun p hp p' hp' e => ?_, PMap.keepT h.under h.here.2.2.2 hk,
    fun q hq => ((h.req q hq).keepT hk.toKeepC (by decide) (by decide) (by decide) (by decide) (by decide) (by decide) (by decide)).sub (fun p hp => hp), h.rbi, h.apart⟩, hk.toKeepC⟩
  · obtain ⟨cur, h1, h2⟩ := h.row.2.2
    exact ⟨cur, hk.cells _ _ _ _ h.here.2.1 (by decide) h1, h2⟩
  · obtain ⟨k, hk1, e1, e2, e3, e4, e5⟩ := setReal_link hp
    rw [e1, e4, e5]
    refine ⟨(h.link k hk1).1, ?_⟩
    by_cases e : k.id = l.id
    · have hp2 := (h.link k hk1).2
      have e2 := heap_setCell_same w (G.lb l.id) 1 _ 148 (.bool v) (e ▸ hp2)
      rw [if_pos e, e]
      exact e2
    · rw [if_neg e, heap_setCell_other _ _ _ _ (fun e' => e (h.lbi k hk1 l hl e'))]
      exact (h.link k hk1).2
  · obtain ⟨k, hk1, e1, -⟩ := setReal_link hp
    obtain ⟨k', hk1', e1', -⟩ := setReal_link hp'
    rw [e1, e1'] at e ⊢
    exact h.lbi k hk1 k' hk1' e
theorem unreal_ids {R : RelP} (l : List Nat) {i : Nat} (h : ∃ k ∈ R.links, k.id = i) : ∃ k ∈ (R.unreal l).links, k.id = i := by
  obtain ⟨k, hk, e⟩ := h
  rw [RelP.unreal_links]
  refine ⟨_, List.mem_map.2 ⟨k, hk, rfl⟩, ?_⟩
  by_cases e' : k.id ∈ l <;> simpa [e'] using e
theorem unreal_take {R : RelP} {l : List Nat} {k i : Nat} (h : l[k]? = some i) : R.unreal (l.take (k + 1)) = (R.unreal (l.take k)).setReal i false := by
  unfold RelP.unreal
  rw [List.take_add_one, h, List.foldl_append]
  rfl
structure Comes (w : World) (G : Gh) (q : ReqP) (c1 c2 c3 c4 : Nat) (vu : Value) : Prop where
  F : c1 ∈ G.F ∧ c2 ∈ G.F ∧ c3 ∈ G.F ∧ c4 ∈ G.F
  kind : w.heap[c1]? = some (.cells #[.int .u8 (q.kind : Int)] 36 (0, 0))
  uses : w.heap[c2]? = some (.cells #[vu] 112 (0, 0))
  row : LRow w G vu q.uses
  link : w.heap[c3]? = some (.cells #[.pointer (if q.fresh = 0 then none else some ⟨G.lb q.fresh, 0, none⟩)] 146 (0, 0))
  many : w.heap[c4]? = some (.cells #[.int .i64 (q.many : Int)] 3 (0, 0))
theorem Comes.still {q : ReqP} {c1 c2 c3 c4 : Nat} {vu : Value} (h : Comes w G q c1 c2 c3 c4 vu) (hm : Mods [] w w') : Comes w' G q c1 c2 c3 c4 vu := by
  refine ⟨h.F, hm.heap h.kind (by simp), hm.heap h.uses (by simp), ?_, hm.heap h.link (by simp), hm.heap h.many (by simp)⟩
  obtain ⟨A, c, e, h1, h2, h3, h4⟩ := h.row
  exact ⟨A, c, e, h1, h2, h3.imp id (fun ⟨g, cur, e1, e2, e3, e4⟩ => ⟨g, cur, e1, e2, hm.heap e3 (by simp), e4⟩), h4⟩
set_option maxRecDepth 100000 in
set_option maxHeartbeats 2000000 in
theorem comes1_any (h : IsRel w r R U G vo) {q : ReqP} {c1 c2 c3 c4 : Nat} {vu : Value} (hc : Comes w G q c1 c2 c3 c4 vu) (hu : q.uses.length ≤ 2) (hul : ∀ i ∈ q.uses, ∃ l ∈ R.links, l.id = i) (hfr : q.fresh ≠ 0 → q.fresh ∈ q.uses)
    (m : MsgP) (vn vd : Value) (A12 : Option Addr) (k12 : Nat) :
    Calls Tryz.prog 121 #[.agg (msgC m vn (.slice A12 m.qids.length k12) vd).toArray, .pointer (some ⟨c1, 0, none⟩), .pointer (some ⟨c2, 0, none⟩), .pointer (some ⟨c3, 0, none⟩), .pointer (some ⟨c4, 0, none⟩)] w fun e w' => e = .returned (.tuple #[]) ∧ IsRel w' r (R.marks q m) U G vo ∧ Mods G.F w w' := by
  have hmA := (Mods.refl [] w).alloc (.cells (msgC m vn (.slice A12 m.qids.length k12) vd).toArray 47)
  have hrow : (w.alloc (.cells (msgC m vn (.slice A12 m.qids.length k12) vd).toArray 47)).heap[w.heap.size]? = some (.cells (msgC m vn (.slice A12 m.qids.length k12) vd).toArray 47 (0, 0)) := heap_alloc_new _ _
  have hrelA := h.still hmA
  have hcA := hc.still hmA
  generalize hw1 : w.alloc (.cells (msgC m vn (.slice A12 m.qids.length k12) vd).toArray 47) = w1 at *
  generalize hmc : msgC m vn (.slice A12 m.qids.length k12) vd = mc at *
  have d1 : w1.cell? ⟨c1, 0, none⟩ = some (.int .u8 (q.kind : Int)) := by rw [cell_of_row _ _ _ _ _ _ hcA.kind]; rfl
  have d2 : w1.cell? ⟨c2, 0, none⟩ = some vu := by rw [cell_of_row _ _ _ _ _ _ hcA.uses]; rfl
  have d3 : w1.cell? ⟨c3, 0, none⟩ = some (.pointer (if q.fresh = 0 then none else some ⟨G.lb q.fresh, 0, none⟩)) := by rw [cell_of_row _ _ _ _ _ _ hcA.link]; rfl
  have d4 : w1.cell? ⟨c4, 0, none⟩ = some (.int .i64 (q.many : Int)) := by rw [cell_of_row _ _ _ _ _ _ hcA.many]; rfl
  have m0 : w1.cell? ⟨w.heap.size, 0, none⟩ = some (.int .u8 (m.kind : Int)) := by rw [cell_of_row _ _ _ _ _ _ hrow, ← hmc]; rfl
  have m12 : w1.cell? ⟨w.heap.size, 12, none⟩ = some (.slice A12 m.qids.length k12) := by rw [cell_of_row _ _ _ _ _ _ hrow, ← hmc]; rfl
  have HREL := Lib.hid hrelA
  have HMA := Lib.hid hmA
  have HUL := Lib.hid hul
  obtain ⟨A, c, hvu, -⟩ := id hcA.row
  have HR := Lib.hid hcA.row
  clear h hc hrelA hmA hrow hcA hul hmc
  by_cases k1 : q.kind = 120 ∨ q.kind = 122
  · have HMK := Lib.hid (RelP.marks_unreal R q m k1)
    subst hvu
    rcases k1 with k1 | k1
    · rw [k1] at d1
      go_enter Tryz.func121, Tryz.ntmps121
      go_wp2_with fail
      go_loopw [14] (fun i wr => ∃ k : Nat, k ≤ q.uses.length ∧ i = .int .i64 k ∧ IsRel wr r (R.unreal (q.uses.take k)) U G vo ∧ KeepC 148 G.F w1 wr ∧ Mods G.F w wr) (fun i _ => q.uses.length - (intOf i).toNat)
      case atStart => exact ⟨0, by omega, rfl, HREL.out, KeepC.refl _ _ _, HMA.out.mono (by simp)⟩
      case round =>
        obtain ⟨k, hk, rfl, hr, hkc, hm⟩ := hrel
        have HRR := Lib.hid hr
        have HKC := Lib.hid hkc
        have HMR := Lib.hid hm
        rcases Nat.lt_or_ge k q.uses.length with hlt | hge
        · obtain ⟨i, hs⟩ : ∃ i, q.uses[k]? = some i := ⟨_, List.getElem?_eq_getElem hlt⟩
          obtain ⟨l, hl, rfl⟩ := unreal_ids (q.uses.take k) (HUL.out i (List.mem_of_getElem? hs))
          obtain ⟨g, rfl, hc⟩ := LRow.at (HR.out.keepT hkc (by decide)) rfl hs
          have g1 : wr.cell? ⟨G.lb l.id, 1, none⟩ = some (.bool l.real) := by
            rw [link_cell hr hl 1]
            rfl
          have f1 : wr.frozen? ⟨G.lb l.id, 1, none⟩ = false := frozen_of_row _ _ _ _ _ (hr.link l hl).2
          have HS := Lib.hid (hr.setReal hl false)
          have HLF := Lib.hid (hr.link l hl).1
          have HT := Lib.hid (unreal_take (R := R) hs)
          clear hr hkc hm hs hl
          go_wp2_with fail
          exact ⟨⟨k + 1, by omega, by simp, by rw [HT.out]; exact HS.out.1, HKC.out.trans HS.out.2, HMR.out.setCell (p := ⟨G.lb l.id, 1, none⟩) (Or.inl HLF.out) _⟩, by simp [intOf]; omega⟩
        · obtain rfl : k = q.uses.length := by omega
          clear hr hkc hm
          go_wp2_with fail
          go_end0
          exact ⟨rfl, by rw [HMK.out]; rw [List.take_length] at HRR; exact HRR.out, HMR.out⟩
    · rw [k1] at d1
      go_enter Tryz.func121, Tryz.ntmps121
      go_wp2_with fail
      go_loopw [14] (fun i wr => ∃ k : Nat, k ≤ q.uses.length ∧ i = .int .i64 k ∧ IsRel wr r (R.unreal (q.uses.take k)) U G vo ∧ KeepC 148 G.F w1 wr ∧ Mods G.F w wr) (fun i _ => q.uses.length - (intOf i).toNat)
      case atStart => exact ⟨0, by omega, rfl, HREL.out, KeepC.refl _ _ _, HMA.out.mono (by simp)⟩
      case round =>
        obtain ⟨k, hk, rfl, hr, hkc, hm⟩ := hrel
        have HRR := Lib.hid hr
        have HKC := Lib.hid hkc
        have HMR := Lib.hid hm
        rcases Nat.lt_or_ge k q.uses.length with hlt | hge
        · obtain ⟨i, hs⟩ : ∃ i, q.uses[k]? = some i := ⟨_, List.getElem?_eq_getElem hlt⟩
          obtain ⟨l, hl, rfl⟩ := unreal_ids (q.uses.take k) (HUL.out i (List.mem_of_getElem? hs))
          obtain ⟨g, rfl, hc⟩ := LRow.at (HR.out.keepT hkc (by decide)) rfl hs
          have g1 : wr.cell? ⟨G.lb l.id, 1, none⟩ = some (.bool l.real) := by
            rw [link_cell hr hl 1]
            rfl
          have f1 : wr.frozen? ⟨G.lb l.id, 1, none⟩ = false := frozen_of_row _ _ _ _ _ (hr.link l hl).2
          have HS := Lib.hid (hr.setReal hl false)
          have HLF := Lib.hid (hr.link l hl).1
          have HT := Lib.hid (unreal_take (R := R) hs)
          clear hr hkc hm hs hl
          go_wp2_with fail
          exact ⟨⟨k + 1, by omega, by simp, by rw [HT.out]; exact HS.out.1, HKC.out.trans HS.out.2, HMR.out.setCell (p := ⟨G.lb l.id, 1, none⟩) (Or.inl HLF.out) _⟩, by simp [intOf]; omega⟩
        · obtain rfl : k = q.uses.length := by omega
          clear hr hkc hm
          go_wp2_with fail
          go_end0
          exact ⟨rfl, by rw [HMK.out]; rw [List.take_length] at HRR; exact HRR.out, HMR.out⟩
  · have nk : ¬ q.kind = 120 ∧ ¬ q.kind = 122 := ⟨fun e => k1 (Or.inl e), fun e => k1 (Or.inr e)⟩
    have b120 : ((q.kind : Int) == 120) = false := by simpa using (by omega : ¬ (q.kind : Int) = 120)
    have b122 : ((q.kind : Int) == 122) = false := by simpa using (by omega : ¬ (q.kind : Int) = 122)
    by_cases k2 : q.kind = 102 ∨ q.kind = 104 ∨ q.kind = 110
    · by_cases k3 : q.fresh = 0
      · have HN : Hid (R.marks q m = R) := Lib.hid (RelP.marks_not R q m k1 (fun l hl e => by
          have := (HREL.out.wf.link l hl).1
          omega))
        rw [if_pos k3] at d3
        rcases k2 with k2 | k2 | k2
        · rw [k2] at d1
          go_enter Tryz.func121, Tryz.ntmps121
          go_wp2_with fail
          go_end0
          exact ⟨rfl, by rw [HN.out]; exact HREL.out, HMA.out.mono (by simp)⟩
        · rw [k2] at d1
          go_enter Tryz.func121, Tryz.ntmps121
          go_wp2_with fail
          go_end0
          exact ⟨rfl, by rw [HN.out]; exact HREL.out, HMA.out.mono (by simp)⟩
        · rw [k2] at d1
          go_enter Tryz.func121, Tryz.ntmps121
          go_wp2_with fail
          go_end0
          exact ⟨rfl, by rw [HN.out]; exact HREL.out, HMA.out.mono (by simp)⟩
      · obtain ⟨l, hl, e⟩ := HUL.out _ (hfr k3)
        rw [if_neg k3, ← e] at d3
        have E := Lib.hid e
        clear e
        by_cases k4 : m.kind = 107
        · have HN : Hid (R.marks q m = R) := Lib.hid (RelP.marks_not R q m k1 (fun l hl e => fun x => x.1 k4))
          rw [k4] at m0
          rcases k2 with k2 | k2 | k2
          · rw [k2] at d1
            go_enter Tryz.func121, Tryz.ntmps121
            go_wp2_with fail
            go_end0
            exact ⟨rfl, by rw [HN.out]; exact HREL.out, HMA.out.mono (by simp)⟩
          · rw [k2] at d1
            go_enter Tryz.func121, Tryz.ntmps121
            go_wp2_with fail
            go_end0
            exact ⟨rfl, by rw [HN.out]; exact HREL.out, HMA.out.mono (by simp)⟩
          · rw [k2] at d1
            go_enter Tryz.func121, Tryz.ntmps121
            go_wp2_with fail
            go_end0
            exact ⟨rfl, by rw [HN.out]; exact HREL.out, HMA.out.mono (by simp)⟩
        · have b107 : ((m.kind : Int) == 107) = false := by simpa using (by omega : ¬ (m.kind : Int) = 107)
          have g1 : w1.cell? ⟨G.lb l.id, 1, none⟩ = some (.bool l.real) := by
            rw [link_cell HREL.out hl 1]
            rfl
          have f1 : w1.frozen? ⟨G.lb l.id, 1, none⟩ = false := frozen_of_row _ _ _ _ _ (HREL.out.link l hl).2
          have HS := Lib.hid (HREL.out.setReal hl true)
          have HLF := Lib.hid (HREL.out.link l hl).1
          by_cases k5 : q.kind = 110 ∧ ¬ m.qids.length = q.many
          · have HN : Hid (R.marks q m = R) := Lib.hid (RelP.marks_not R q m k1 (fun l hl e => fun x => by omega))
            have bl : ((m.qids.length : Int) == (q.many : Int)) = false := by simpa using (by omega : ¬ (m.qids.length : Int) = (q.many : Int))
            rw [k5.1] at d1
            go_enter Tryz.func121, Tryz.ntmps121
            go_wp2_with fail
            go_end0
            exact ⟨rfl, by rw [HN.out]; exact HREL.out, HMA.out.mono (by simp)⟩
          · have HN : Hid (R.marks q m = R.setReal l.id true) := Lib.hid (by rw [E.out]; exact RelP.marks_real R q m k1 ⟨k4, by omega⟩)
            rcases k2 with k2 | k2 | k2
            · rw [k2] at d1
              go_enter Tryz.func121, Tryz.ntmps121
              go_wp2_with fail
              go_end0
              exact ⟨rfl, by rw [HN.out]; exact HS.out.1, (HMA.out.mono (by simp)).setCell (p := ⟨G.lb l.id, 1, none⟩) (Or.inl HLF.out) _⟩
            · rw [k2] at d1
              go_enter Tryz.func121, Tryz.ntmps121
              go_wp2_with fail
              go_end0
              exact ⟨rfl, by rw [HN.out]; exact HS.out.1, (HMA.out.mono (by simp)).setCell (p := ⟨G.lb l.id, 1, none⟩) (Or.inl HLF.out) _⟩
            · rw [k2] at d1
              have bl : ((m.qids.length : Int) == (q.many : Int)) = true := by simpa using (by omega : (m.qids.length : Int) = (q.many : Int))
              go_enter Tryz.func121, Tryz.ntmps121
              go_wp2_with fail
              go_end0
              exact ⟨rfl, by rw [HN.out]; exact HS.out.1, (HMA.out.mono (by simp)).setCell (p := ⟨G.lb l.id, 1, none⟩) (Or.inl HLF.out) _⟩
    · have HN : Hid (R.marks q m = R) := Lib.hid (RelP.marks_not R q m k1 (fun l hl e => fun x => by omega))
      have b102 : ((q.kind : Int) == 102) = false := by simpa using (by omega : ¬ (q.kind : Int) = 102)
      have b104 : ((q.kind : Int) == 104) = false := by simpa using (by omega : ¬ (q.kind : Int) = 104)
      have b110 : ((q.kind : Int) == 110) = false := by simpa using (by omega : ¬ (q.kind : Int) = 110)
      go_enter Tryz.func121, Tryz.ntmps121
      go_wp2_with fail
      go_end0
      exact ⟨rfl, by rw [HN.out]; exact HREL.out, HMA.out.mono (by simp)⟩
end
end Go.Proofs.YtlgoeipgmjcboaaGreatDoor
