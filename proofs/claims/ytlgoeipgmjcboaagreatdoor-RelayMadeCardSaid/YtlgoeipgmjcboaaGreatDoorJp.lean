/- flush$1: a flushed request is over. | A request that is ready goes into the map of those under way. -/
import Derived.Test.YtlgoeipgmjcboaaGreatDoorJl
import Derived.LaidEqlPtr
namespace Go.Proofs.YtlgoeipgmjcboaaGreatDoor
open Go.RowKit Me
theorem size115 : (Tryz.prog.info? 115).map (fun i => i.size) = some 43 := by kernel_rfl
theorem info115 : ∃ j, Tryz.prog.info? 115 = some j ∧ j.size ≠ 0 := by
  have h := size115
  cases e : Tryz.prog.info? 115 with
  | none => rw [e] at h; cases h
  | some j =>
    rw [e] at h
    exact ⟨j, rfl, by have h' : j.size = 43 := Option.some.inj h; rw [h']; decide⟩
theorem eql109_same (a : Addr) (w : World) : (binOp .eql 109 (.pointer (some a)) (.pointer (some a))).run Tryz.prog w = .ok (.bool true) w := by
  obtain ⟨j, h, -⟩ := info115
  exact run_eql_ptr_same w a Tryz.underlying109 h
theorem eql109_other {a b : Nat} {w : World} {ca cb : Array Value} {ta tb : TypeId} (hne : a ≠ b) (ha : w.heap[a]? = some (.cells ca ta (0, 0))) (hb : w.heap[b]? = some (.cells cb tb (0, 0))) : (binOp .eql 109 (.pointer (some ⟨a, 0, none⟩)) (.pointer (some ⟨b, 0, none⟩))).run Tryz.prog w = .ok (.bool false) w := by
  obtain ⟨j, h, h1⟩ := info115
  exact run_eql_ptr_other w Tryz.underlying109 h h1 (fun e => hne (by cases e; rfl)) ha hb
theorem eql109_none (a : Addr) (w : World) : (binOp .eql 109 (.pointer none) (.pointer (some a))).run Tryz.prog w = .ok (.bool false) w := by
  have h : ∀ d : Nat, (Op.equalIn (d + 1) 109 (.pointer none) (.pointer (some a))).run Tryz.prog w = .ok false w := fun d => by
    simp [Op.equalIn, run_underlying Tryz.underlying109]
  simp only [binOp]
  simp [Op.equal, Op.maxDepth, h 9999]
theorem used_le {R : RelP} (h : R.Wf) (i : Nat) : R.used i ≤ 1000 := by
  have h1 : ∀ L : List ReqP, (∀ q ∈ L, q.uses.length ≤ 2) → (L.map fun q => q.uses.count i).sum ≤ 2 * L.length := by
    intro L
    induction L with
    | nil => intro _; simp
    | cons a L ih =>
      intro hL
      have h2 := ih (fun q hq => hL q (List.mem_cons_of_mem _ hq))
      have h3 := hL a List.mem_cons_self
      have h4 : a.uses.count i ≤ a.uses.length := List.count_le_length
      simp only [List.map_cons, List.sum_cons, List.length_cons]
      omega
  have h2 := h1 R.reqs (fun q hq => (h.req q hq).2.2.2.2.2.2.2.2.2.2)
  have h3 := h.reqs_le
  have h4 := h.tags.2
  unfold RelP.used
  omega
theorem used_without {R : RelP} (h : R.Wf) {q : ReqP} (hq : q ∈ R.reqs) (i : Nat) : R.used i = (R.without q.id).used i + q.uses.count i := by
  have h1 : ∀ L : List ReqP, q ∈ L → L.Pairwise (fun a b => a.id ≠ b.id) → (L.map fun q => q.uses.count i).sum = ((L.filter fun p => p.id != q.id).map fun q => q.uses.count i).sum + q.uses.count i := by
    intro L
    induction L with
    | nil => intro h _; cases h
    | cons a L ih =>
      intro hL hp
      rw [List.pairwise_cons] at hp
      rcases List.mem_cons.1 hL with rfl | hL'
      · have e : L.filter (fun p => p.id != q.id) = L := List.filter_eq_self.2 fun p hp' => by
          have := hp.1 p hp'
          simpa using fun e => this e.symm
        simp [e, Nat.add_comm]
      · have e : (a.id != q.id) = true := by simpa using hp.1 q hL'
        simp only [List.filter_cons, e, if_true, List.map_cons, List.sum_cons, ih hL' hp.2]
        omega
  exact h1 R.reqs hq (h.reqs.imp fun h => h.1)
section
variable {w w' : World} {r : Nat} {R : RelP} {U : Nat → Nat} {G : Gh} {vo : Value}
theorem over2_any (h : IsRel w r R R.used G vo) {q : ReqP} (hq : q ∈ R.reqs) :
    Calls Tryz.prog 43 #[.pointer (some ⟨r, 0, none⟩), .pointer (some ⟨G.rb q.id, 0, none⟩)] w fun e w' => e = .returned (.tuple #[]) ∧ IsRel w' r (R.without q.id) (R.without q.id).used G vo ∧ KeepC 148 G.F w w' ∧ Mods G.F w w' := by
  refine (over_any h hq (fun i => ⟨?_, used_le h.wf i⟩)).mono fun e w' ⟨h1, h2, h3, h4⟩ => ⟨h1, h2.used_eq fun l _ => ?_, h3, h4⟩
  · have := used_without h.wf hq i
    omega
  · have := used_without h.wf hq l.id
    omega
theorem without_none {id : Nat} (h : ∀ p ∈ R.reqs, p.id ≠ id) : R.without id = R := by
  unfold RelP.without
  rw [List.filter_eq_self.2 (fun p hp => by simpa using h p hp)]
theorem req_look {R : RelP} {G : Gh} (n : Nat) : Me.look (reqM R G) n = (R.reqs.find? fun q => q.num == n).map fun q => G.rb q.id := by
  unfold Me.look reqM
  rw [List.find?_map, Option.map_map]
  have : ((fun e : Nat × Nat => decide (e.1 = n)) ∘ fun q : ReqP => (q.num, G.rb q.id)) = fun q : ReqP => q.num == n := by
    funext q
    by_cases e : q.num = n <;> simp [e]
  rw [this]
  rfl
structure Flush (w : World) (r : Nat) (G : Gh) (R : RelP) (names c1 c2 : Nat) : Prop where
  F : c1 ∈ G.F ∧ c2 ∈ G.F ∧ G.rb names ∈ G.F
  rel : w.heap[c1]? = some (.cells #[.pointer (some ⟨r, 0, none⟩)] 24 (0, 0))
  named : w.heap[c2]? = some (.cells #[.pointer (some ⟨G.rb names, 0, none⟩)] 109 (0, 0))
  tag : ∃ cs t, w.heap[G.rb names]? = some (.cells cs 115 (0, 0)) ∧ cs[1]? = some (.int .u16 (t : Int)) ∧ t < 65536 ∧ ∀ p ∈ R.reqs, p.id = names → p.num = t
  apart : ∀ p ∈ R.reqs, G.rb p.id = G.rb names → p.id = names
theorem Flush.still {names c1 c2 : Nat} (h : Flush w r G R names c1 c2) (hm : Mods [] w w') : Flush w' r G R names c1 c2 := by
  obtain ⟨cs, t, h1, h2⟩ := h.tag
  exact ⟨h.F, hm.heap h.rel (by simp), hm.heap h.named (by simp), ⟨cs, t, hm.heap h1 (by simp), h2⟩, h.apart⟩
set_option maxRecDepth 100000 in
set_option maxHeartbeats 2000000 in
theorem flush1_any (h : IsRel w r R R.used G vo) {names c1 c2 : Nat} (hf : Flush w r G R names c1 c2) (m : MsgP) (vn vq vd : Value) :
    Calls Tryz.prog 82 #[.agg (msgC m vn vq vd).toArray, .pointer (some ⟨c1, 0, none⟩), .pointer (some ⟨c2, 0, none⟩)] w fun e w' => e = .returned (.tuple #[]) ∧
      IsRel w' r (if m.kind = 109 then R.without names else R) (if m.kind = 109 then R.without names else R).used G vo ∧ Mods G.F w w' := by
  have hmA := ((Mods.refl [] w).alloc (.cells (msgC m vn vq vd).toArray 47)).drew
  have hrow : (w.alloc (.cells (msgC m vn vq vd).toArray 47)).drew.heap[w.heap.size]? = some (.cells (msgC m vn vq vd).toArray 47 (0, 0)) := heap_alloc_new _ _
  have hrelA := h.still hmA
  have hfA := hf.still hmA
  generalize hmc : msgC m vn vq vd = mc at *
  generalize hw1 : w.alloc (.cells mc.toArray 47) = w1 at *
  have m0 : w1.drew.cell? ⟨w.heap.size, 0, none⟩ = some (.int .u8 (m.kind : Int)) := by rw [cell_of_row _ _ _ _ _ _ hrow, ← hmc]; rfl
  obtain ⟨cs, t, ht1, ht2, ht3, ht4⟩ := hfA.tag
  have d1 : w1.drew.cell? ⟨c1, 0, none⟩ = some (.pointer (some ⟨r, 0, none⟩)) := by rw [cell_of_row _ _ _ _ _ _ hfA.rel]; rfl
  have d2 : w1.drew.cell? ⟨c2, 0, none⟩ = some (.pointer (some ⟨G.rb names, 0, none⟩)) := by rw [cell_of_row _ _ _ _ _ _ hfA.named]; rfl
  have d3 : w1.drew.cell? ⟨G.rb names, 1, none⟩ = some (.int .u16 (t : Int)) := by rw [cell_of_row _ _ _ _ _ _ ht1]; exact ht2
  have c5 : w1.drew.cell? ⟨r, 5, none⟩ = some (.map (some G.ub)) := hrelA.cell 5
  have hlk := hrelA.under.look Tryz.underlying78 (zero109 w1.drew) t ht3
  change (Instr.lookup 78 (.map (some G.ub)) (.int .u16 (t : Int)) false).run Tryz.prog w1.drew = .ok (ptV (Me.look (reqM R G) t)) w1.drew at hlk
  rw [req_look] at hlk
  have HREL := Lib.hid hrelA
  have HMA := Lib.hid hmA
  have HT := Lib.hid ht4
  have HT1 := Lib.hid ht1
  have HAP := Lib.hid hf.apart
  clear h hrow hmA hrelA hfA hmc ht1 ht2 ht4 hf
  by_cases k1 : m.kind = 109
  · rw [k1] at m0
    have EI : Hid ((if m.kind = 109 then R.without names else R) = R.without names) := Lib.hid (if_pos k1)
    by_cases k2 : ∃ p ∈ R.reqs, p.id = names
    · obtain ⟨p, hp, rfl⟩ := k2
      have hnum := HT.out p hp rfl
      have hfind : R.reqs.find? (fun q => q.num == t) = some p := by
        subst hnum
        exact find_unique HREL.out.wf.reqs hp (by simp) (fun y _ z _ hy hz hP => hP.2.1 (by simp at hy hz; rw [hy, hz]))
      rw [hfind] at hlk
      simp only [Option.map_some, ptV] at hlk
      have HO := Lib.hid (over2_any HREL.out hp)
      have hE := eql109_same ⟨G.rb p.id, 0, none⟩ w1.drew
      clear hfind hnum HT HAP
      go_enter Tryz.func82, Tryz.ntmps82
      go_wp2_with fail
      go_region
      go_wp2_with fail
      refine HO.out.mono ?_
      rintro e w2 ⟨rfl, h2, -, h4⟩
      have H2 := Lib.hid h2
      have H4 := Lib.hid h4
      clear h2 h4
      go_wp2_with fail
      go_end0
      exact ⟨rfl, H2.out, (HMA.out.mono (by simp)).trans H4.out (fun b hb => Or.inl hb)⟩
    · have HN : Hid (R.without names = R) := Lib.hid (without_none fun p hp e => k2 ⟨p, hp, e⟩)
      cases hfind : R.reqs.find? (fun q => q.num == t) with
      | none =>
        rw [hfind] at hlk
        simp only [Option.map_none, ptV] at hlk
        have hE := eql109_none ⟨G.rb names, 0, none⟩ w1.drew
        clear hfind HT HAP
        go_enter Tryz.func82, Tryz.ntmps82
        go_wp2_with fail
        go_region
        go_wp2_with fail
        go_end0
        exact ⟨rfl, by rw [HN.out]; exact HREL.out, HMA.out.mono (by simp)⟩
      | some p =>
        rw [hfind] at hlk
        simp only [Option.map_some, ptV] at hlk
        obtain ⟨_, cp, _, _, hpr, -⟩ := HREL.out.req p (List.mem_of_find?_eq_some hfind)
        have hE := eql109_other (fun e => k2 ⟨p, List.mem_of_find?_eq_some hfind, HAP.out p (List.mem_of_find?_eq_some hfind) e⟩) hpr HT1.out
        clear hfind HT HAP
        go_enter Tryz.func82, Tryz.ntmps82
        go_wp2_with fail
        go_region
        go_wp2_with fail
        go_end0
        exact ⟨rfl, by rw [HN.out]; exact HREL.out, HMA.out.mono (by simp)⟩
  · have b1 : ((m.kind : Int) == 109) = false := by simpa using (by omega : ¬ (m.kind : Int) = 109)
    have EI : Hid ((if m.kind = 109 then R.without names else R) = R) := Lib.hid (if_neg k1)
    clear HT HAP
    go_enter Tryz.func82, Tryz.ntmps82
    go_wp2_with fail
    go_region
    go_wp2_with fail
    go_end0
    exact ⟨rfl, HREL.out, HMA.out.mono (by simp)⟩
end
end Go.Proofs.YtlgoeipgmjcboaaGreatDoor
namespace Go.Proofs.YtlgoeipgmjcboaaGreatDoor
open Go.RowKit Me

theorem qids_at (L : List QidP) {i : Nat} {q : QidP} (h : L[i]? = some q) (j : Nat) (hj : j < 3) : (L.flatMap qidC)[i * 3 + j]? = (qidC q)[j]? := by
  induction L generalizing i with
  | nil => simp at h
  | cons a L ih =>
    cases i with
    | zero =>
      simp at h
      subst h
      simp only [List.flatMap_cons, Nat.zero_mul, Nat.zero_add]
      rw [List.getElem?_append_left (by simpa [qidC] using hj)]
    | succ i =>
      have e : (i + 1) * 3 + j = 3 + (i * 3 + j) := by omega
      simp only [List.flatMap_cons, e]
      rw [List.getElem?_append_right (by simp [qidC])]
      have : 3 + (i * 3 + j) - (qidC a).length = i * 3 + j := by simp [qidC]
      rw [this]
      exact ih (by simpa using h)
theorem RdQ.of_own {w : World} {base : Nat} {v : Value} {L : List QidP} (h : w.ownsRow base 42 3 v L.length (L.flatMap qidC)) : RdQ w v L := by
  rcases h.2 with ⟨rfl, hz⟩ | ⟨g, cap, cur, rfl, hb, hg, hn, hc, hcur⟩
  · obtain rfl : L = [] := List.eq_nil_of_length_eq_zero hz
    exact ⟨none, 0, rfl, Nat.le_refl _, by decide, by simp⟩
  · refine ⟨_, cap, rfl, hn, hc, fun i q hq => ⟨g, 0, rfl, fun j v hj => ?_⟩⟩
    have hj3 : j < 3 := (List.getElem?_eq_some_iff.1 hj).1
    have h1 := qids_at L hq j hj3
    rw [hj, ← hcur.2, List.getElem?_take] at h1
    split at h1
    · rw [cell_of_row _ _ _ _ _ _ hg, ← Array.getElem?_toList, Nat.zero_add]
      exact h1
    · cases h1
theorem OwnM.reads {w : World} {base : Nat} {m : MsgP} {vn vq vd : Value} (h : OwnM w base m vn vq vd) : MsgR w m vn vq vd :=
  ⟨by have := h.names; exact Rd.of_own (n := m.names.length) this, RdQ.of_own h.qids, Rd.of_own (n := m.data.length) h.data⟩
/-- A request's cells. -/
def reqC (m : MsgP) (vn vq vd : Value) (n : Nat) (own : Bool) (tag : Nat) (lost : Bool) (vu vx vt : Value) : List Value :=
  msgC m vn vq vd ++ [.int .i64 (n : Int), .bool own, .int .u16 (tag : Int), .bool lost, vu, vx, vt]
/-- What a request that is taken must be. -/
structure RelP.Takes (R : RelP) (q : ReqP) : Prop where
  client : 1 ≤ q.client ∧ q.client ≤ R.clients.length
  kind : answerK q.kind ≠ none
  tag : q.tag < 65536
  uses : ∀ i ∈ q.uses, ∃ l ∈ R.links, l.id = i
  fresh : q.fresh ≠ 0 → q.fresh ∈ q.uses
  live : q.own = false → q.lost = false → 512 ≤ (R.cli q.client).msize ∧ (R.cli q.client).ending = false
  few : q.uses.length ≤ 2
  names : q.names ≤ R.made
  alone : q.own = false → ∀ p ∈ R.reqs, p.own = false → ¬ (p.client = q.client ∧ p.tag = q.tag)
def RelP.put (R : RelP) (q : ReqP) (t : Nat) : RelP := { R with made := R.made + 1, reqs := R.reqs ++ [{ q with id := R.made + 1, num := t }] }
def Gh.req (G : Gh) (X : List Nat) (b i : Nat) : Gh := { G with F := X ++ G.F, rb := fun j => if j = i then b else G.rb j }
theorem Gh.req_more (G : Gh) (X : List Nat) (b made : Nat) : G.More (G.req X b (made + 1)) made :=
  ⟨fun _ h => List.mem_append.2 (Or.inr h), fun _ _ => rfl, fun i hi => if_neg (by omega)⟩
theorem tag_some {R : RelP} {t : Nat} (h : R.tag = some t) : t < R.tags ∧ ∀ q ∈ R.reqs, q.num ≠ t := by
  unfold RelP.tag at h
  rw [List.find?_range_eq_some] at h
  obtain ⟨h1, h2, -⟩ := h
  refine ⟨by simpa using h2, fun q hq => ?_⟩
  rw [List.all_eq_true] at h1
  simpa using h1 q hq
theorem RelP.Wf.put {R : RelP} (h : R.Wf) {q : ReqP} {t : Nat} (hq : R.Takes q) (ht : R.tag = some t) : (R.put q t).Wf := by
  obtain ⟨t1, t2⟩ := tag_some ht
  refine ⟨h.msize, h.fids, h.tags, h.many, h.cli, fun l hl => ?_, h.links, fun p hp => ?_, ?_, fun p hp => ?_⟩
  · obtain ⟨g1, g2, g3⟩ := h.link l hl
    exact ⟨g1, Nat.le_trans g2 (Nat.le_succ _), g3⟩
  · rcases List.mem_append.1 hp with hp | hp
    · obtain ⟨g1, g2, g3⟩ := h.req p hp
      exact ⟨g1, Nat.le_trans g2 (Nat.le_succ _), g3⟩
    · simp at hp
      subst hp
      exact ⟨Nat.succ_pos _, Nat.le_refl _, t1, hq.client.1, hq.client.2, hq.kind, hq.tag, hq.uses, hq.fresh, hq.live, hq.few⟩
  · show (R.reqs ++ [_]).Pairwise _
    rw [List.pairwise_append]
    refine ⟨h.reqs, List.pairwise_singleton _ _, fun p hp k hk => ?_⟩
    simp at hk
    subst hk
    refine ⟨?_, t2 p hp, fun ⟨e1, e2, e3, e4⟩ => hq.alone e2 p hp e1 ⟨e3, e4⟩⟩
    have := (h.req p hp).2.1
    show p.id ≠ R.made + 1
    omega
  · rcases List.mem_append.1 hp with hp | hp
    · exact Nat.le_trans (h.names p hp) (Nat.le_succ _)
    · simp at hp
      subst hp
      exact Nat.le_trans hq.names (Nat.le_succ _)
section
variable {w w' : World} {r : Nat} {R : RelP} {U : Nat → Nat} {G : Gh} {vo : Value}
theorem used_put (q : ReqP) (t i : Nat) : (R.put q t).used i = R.used i + q.uses.count i := by
  unfold RelP.put RelP.used
  simp
/-- The map of requests has one more. -/
theorem IsRel.put {X : List Nat} {b t : Nat} {q : ReqP} {m : MsgP} {vn vq vd vu vx vt : Value} (h : IsRel w r R U G vo) (hq : R.Takes q) (ht : R.tag = some t) (hk : m.kind = q.kind) (hmt : m.tag = t)
    (hrow : w.heap[b]? = some (.cells (reqC m vn vq vd q.client q.own q.tag q.lost vu vx vt).toArray 115 (0, 0))) (hu : LRow w (G.req X b (R.made + 1)) vu q.uses) (hth : IsThen w r (G.req X b (R.made + 1)) R q vt)
    (hb : b ∈ X) (hX : ∀ k ∈ X, k ∉ G.F ∧ k < w.heap.size) (hnm : q.kind = 108 → G.rb q.names ∈ G.F) (hm : Mods [G.ub] w w') (hM : PMap KU w' G.ub (reqM R G ++ [(t, b)])) :
    IsRel w' r (R.put q t) U (G.req X b (R.made + 1)) vo := by
  obtain ⟨es, cl, hub⟩ : ∃ es c, w.heap[G.ub]? = some (.map es c) := by
    obtain ⟨D, ⟨es, clock, h1, _⟩, _⟩ := h.under
    exact ⟨es, clock, h1⟩
  have hc : ∀ T F, KeepC T F w w' := fun T F => KeepC.map hub hm
  have mo := G.req_more X b R.made
  have hbF := (hX b hb).1
  have hrb : ∀ p ∈ R.reqs, (G.req X b (R.made + 1)).rb p.id = G.rb p.id := fun p hp => mo.rb _ (h.wf.req p hp).2.1
  have hnew : (G.req X b (R.made + 1)).rb (R.made + 1) = b := if_pos rfl
  have hR : ∀ p ∈ (R.put q t).reqs, p ∈ R.reqs ∨ (R.made < p.id ∧ (G.req X b (R.made + 1)).rb p.id ∉ G.F) := fun p hp => (List.mem_append.1 hp).imp id (fun hp => by
    simp at hp
    subst hp
    exact ⟨Nat.lt_succ_self _, by rw [hnew]; exact hbF⟩)
  have hids := fun p hp => (h.wf.req p hp).2.1
  have hkp : ∀ {p v}, IsThen w r (G.req X b (R.made + 1)) R p v → IsThen w' r (G.req X b (R.made + 1)) R p v := fun hp => hp.keepT (hc 0 _) (by decide) (by decide) (by decide) (by decide) (by decide) (by decide) (by decide)
  refine ⟨h.wf.put hq ht, ⟨mo.sub _ h.here.1, mo.sub _ h.here.2.1, mo.sub _ h.here.2.2.1, mo.sub _ h.here.2.2.2⟩, fun k hk => ?_, (hc 0 G.F).cells _ _ _ _ h.here.1 (by decide) h.cells, ⟨h.row.1, h.row.2.1, ?_⟩,
    fun i c hi => ((h.cli i c hi).keepT (hc 0 G.F) (by decide) (by decide)).more mo, h.cbi, h.links.mods hm (by simpa using h.apart), fun l hl => ⟨mo.sub _ (h.link l hl).1, (hc 0 G.F).cells _ _ _ _ (h.link l hl).1 (by decide) (h.link l hl).2⟩, h.lbi, ?_, fun p hp => ?_, fun p hp k hk e => ?_, h.apart⟩
  · rcases List.mem_append.1 hk with hk | hk
    · exact Nat.lt_of_lt_of_le (hX k hk).2 hm.size
    · exact Nat.lt_of_lt_of_le (h.lt k hk) hm.size
  · obtain ⟨cur, h1, h2⟩ := h.row.2.2
    exact ⟨cur, (hc 0 G.F).cells _ _ _ _ h.here.2.1 (by decide) h1, h2⟩
  · have e : (R.put q t).reqs.map (fun p => (p.num, (G.req X b (R.made + 1)).rb p.id)) = reqM R G ++ [(t, b)] := by
      show (R.reqs ++ [_]).map _ = _
      rw [List.map_append]
      congr 1
      · exact List.map_congr_left fun p hp => by rw [hrb p hp]
      · simp [hnew]
    rw [e]
    exact hM
  · rcases List.mem_append.1 hp with hp | hp
    · exact ((h.req p hp).keepT (hc 0 G.F) (by decide) (by decide) (by decide) (by decide) (by decide) (by decide) (by decide)).more mo (h.wf.uses_le hp).1 (h.wf.uses_le hp).2 (h.wf.names p hp) hids (hids p hp) hR
    · simp at hp
      subst hp
      refine ⟨by rw [hnew]; exact List.mem_append.2 (Or.inl hb), _, vu, vt, by rw [hnew]; exact (hc 0 (X ++ G.F)).cells _ _ _ _ (List.mem_append.2 (Or.inl hb)) (by decide) hrow, rfl, ?_, ?_, rfl, rfl, rfl, rfl, rfl, rfl, hu.keepT (hc 0 _) (by decide), ?_⟩
      · show some (Value.int .u8 (m.kind : Int)) = _
        rw [hk]
      · show some (Value.int .u16 (m.tag : Int)) = _
        rw [hmt]
      · rcases hkp hth with ⟨k, c1, c2, e, f1, f2, g1, g2, f3, ⟨cs', t', g3, g4, g5, g6⟩, g7⟩ | hz
        · have e3 : (G.req X b (R.made + 1)).rb q.names = G.rb q.names := mo.rb _ hq.names
          refine Or.inl ⟨k, c1, c2, e, f1, f2, g1, g2, f3, ⟨cs', t', g3, g4, g5, fun p hp hi => ?_⟩, fun p hp hi => ?_⟩
          · rcases List.mem_append.1 hp with hp | hp
            · exact g6 p hp hi
            · simp at hp
              subst hp
              have := hq.names
              simp at hi
              omega
          · rcases List.mem_append.1 hp with hp | hp
            · exact g7 p hp hi
            · simp at hp
              subst hp
              rw [hnew] at hi
              have h1 := hnm k
              rw [← e3, ← hi] at h1
              exact absurd h1 hbF
        · exact Or.inr hz
  · rcases List.mem_append.1 hp with hp | hp
    · rcases List.mem_append.1 hk with hk | hk
      · rw [hrb p hp, hrb k hk] at e
        exact h.rbi p hp k hk e
      · simp at hk
        subst hk
        rw [hrb p hp, hnew] at e
        exact absurd (e ▸ (h.req p hp).1) hbF
    · simp at hp
      subst hp
      rcases List.mem_append.1 hk with hk | hk
      · rw [hrb k hk, hnew] at e
        exact absurd (e ▸ (h.req k hk).1) hbF
      · simp at hk
        subst hk
        rfl
end
end Go.Proofs.YtlgoeipgmjcboaaGreatDoor
