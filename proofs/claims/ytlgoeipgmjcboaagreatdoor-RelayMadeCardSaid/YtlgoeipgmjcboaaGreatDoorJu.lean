/- flush: a Tflush is sent on. | A request that is being made in the course of a call: its steps. | A request that is made is sent: comes, the store of `then`, send. | A request that is passed on: the request beside the message that it is made of. -/
import Derived.Test.YtlgoeipgmjcboaaGreatDoorJq
import Derived.Test.YtlgoeipgmjcboaaGreatDoorJm
namespace Go.Proofs.YtlgoeipgmjcboaaGreatDoor
open Go.RowKit Me
namespace Me
theorem wpList_built {P : Program} {ops : Array Oper} {rest : List Oper} {o : Oper} {a : Act} {w : World} {Q : Exit → Act → World → Prop} (hg : o.guard = none) (t : TypeId) (parts : Array (Nat × Operand)) (ho : o.op = .build t parts) (cells : Array Value)
    (hf : P.built t (parts.map fun (i, x) => (i, a.eval x)).toList = some cells) (h : wpList P ops Q rest (a.put o.dst (.agg cells)) w) : wpList P ops Q (o :: rest) a w :=
  wpList_build hg t parts ho (by rw [hf]; rfl) (by rw [hf]; exact h)
end Me
section
variable {w0 w : World} {F0 K K' : List Nat} {r : Nat} {R : RelP} {U : Nat → Nat} {G : Gh} {L : List OutV}
theorem setOff {w : World} {p q i : Nat} {T T' : TypeId} {cs cs' : Array Value} {fr fr' : Nat × Nat} (h : w.heap[p]? = some (.cells cs T fr)) (hq : w.heap[q]? = some (.cells cs' T' fr')) (hne : T ≠ T') (v : Value) : (w.setCell ⟨p, i, none⟩ v).heap[q]? = some (.cells cs' T' fr') := by
  rw [heap_setCell_other _ _ _ _ (fun e => by
    rw [show q = p from e, h] at hq
    cases hq
    exact hne rfl)]
  exact hq
theorem St.keep (h : St w0 F0 K r R U G L w) (hk : ∀ k ∈ K', k ∈ K) : St w0 F0 K' r R U G L w := by
  obtain ⟨vo, h1, h2, h3, h4⟩ := h.ex
  exact ⟨⟨vo, h1, h2, h3, fun k hk' => h4 k (hk k hk')⟩, h.mods, h.sub⟩
theorem St.setK (h : St w0 F0 K r R U G L w) {b i : Nat} {v : Value} (hb : b ∈ K) (hn : w0.heap.size ≤ b) : St w0 F0 K r R U G L (w.setCell ⟨b, i, none⟩ v) := by
  obtain ⟨vo, h1, h2, h3, h4⟩ := h.ex
  have hm : Mods [b] w (w.setCell ⟨b, i, none⟩ v) := (Mods.refl [b] w).setCell (p := ⟨b, i, none⟩) (Or.inl (by simp)) _
  have hk := h4 b hb
  refine ⟨⟨vo, h1.mods hm (fun k hk' e => hk.2.1 (by simp at e; rw [← e]; exact hk')), h2.modsX hm (fun k hk' e => hk.2.2 (by simp at e; rw [← e]; exact hk')), h3, fun k hk => ⟨Nat.lt_of_lt_of_le (h4 k hk).1 hm.size, (h4 k hk).2⟩⟩, h.mods.trans hm (fun k hk' => Or.inr (by simp at hk'; rw [hk']; exact hn)), h.sub⟩
theorem built115 (m : MsgP) (vn vq vd : Value) (n tag : Nat) (vx : Option Addr) : Tryz.prog.built 115 [(0, .agg (msgC m vn vq vd).toArray), (1, .int .i64 (n : Int)), (3, .int .u16 (tag : Int)), (6, .pointer vx)] = some (reqC m vn vq vd n false tag false (.slice none 0 0) (.pointer vx) .nilFunc).toArray := by kernel_rfl
theorem build115 (m : MsgP) (vn vq vd : Value) (n tag : Nat) (vx : Option Addr) (w : World) : (Instr.build 115 #[(0, .agg (msgC m vn vq vd).toArray), (1, .int .i64 (n : Int)), (3, .int .u16 (tag : Int)), (6, .pointer vx)]).run Tryz.prog w = .ok (.agg (reqC m vn vq vd n false tag false (.slice none 0 0) (.pointer vx) .nilFunc).toArray) w :=
  run_build w 115 _ _ (built115 m vn vq vd n tag vx)
/-- What a client may ask for: it has a session, and no request of that tag. -/
structure RelP.Asks (R : RelP) (n : Nat) (m : MsgP) : Prop where
  client : 1 ≤ n ∧ n ≤ R.clients.length
  kind : answerK m.kind ≠ none
  live : 512 ≤ (R.cli n).msize ∧ (R.cli n).ending = false
  none : R.under n m.tag = none
  fits : m.Fits
theorem under_none {n tag : Nat} (h : R.under n tag = none) : ∀ p ∈ R.reqs, p.own = false → ¬ (p.client = n ∧ p.tag = tag) := by
  intro p hp ho ⟨e1, e2⟩
  unfold RelP.under at h
  rw [List.find?_eq_none] at h
  exact h p hp (by simp [ho, e1, e2])
def flushQ (n tag id : Nat) : ReqP := ⟨0, 0, n, false, false, 108, tag, [], 0, 0, id, 0⟩
set_option maxRecDepth 100000 in
set_option maxHeartbeats 4000000 in
theorem flush_any {m : MsgP} {vn vq vd : Value} {n t : Nat} {p : ReqP} (h : St w0 F0 (listB vn vq vd ++ K) r R R.used G L w) (hm : OwnM w 0 m vn vq vd) (hsm : m.names.length ≤ 100000000 ∧ m.qids.length ≤ 100000000 ∧ m.data.length ≤ 100000000) (ha : R.Asks n m) (hk : m.kind = 108) (hp : p ∈ R.reqs) (ht : R.tag = some t) (hL : L.length ≤ 1000) :
    Calls Tryz.prog 60 #[.pointer (some ⟨r, 0, none⟩), .int .i64 (n : Int), .agg (msgC m vn vq vd).toArray, .pointer (some ⟨G.rb p.id, 0, none⟩)] w fun e w' => e = .returned (.tuple #[]) ∧ ∃ (o : OutV) (G' : Gh), o.c = 0 ∧ o.m = { m with oldtag := p.num, tag := t } ∧
      St w0 F0 K r (R.put (flushQ n m.tag p.id) t) (R.put (flushQ n m.tag p.id) t).used G' (L ++ [o]) w' := by
  have hA := (((h.alloc (.cells #[.pointer (some ⟨r, 0, none⟩)] 24)).alloc (.cells (msgC m vn vq vd).toArray 47)).alloc (.cells #[.pointer (some ⟨G.rb p.id, 0, none⟩)] 109)).alloc (.cells (reqC m vn vq vd n false m.tag false (.slice none 0 0) (.pointer (some ⟨G.rb p.id, 0, none⟩)) .nilFunc).toArray 115)
  have hsz := h.mods.size
  have hm1 := (Mods.refl [] w).alloc (.cells #[.pointer (some ⟨r, 0, none⟩)] 24)
  have hc1 := heap_alloc_new w (.cells #[.pointer (some ⟨r, 0, none⟩)] 24)
  generalize hw1 : w.alloc (.cells #[.pointer (some ⟨r, 0, none⟩)] 24) = w1 at *
  have hm2 := (Mods.refl [] w1).alloc (.cells (msgC m vn vq vd).toArray 47)
  have hc2 := heap_alloc_new w1 (.cells (msgC m vn vq vd).toArray 47)
  generalize hw2 : w1.alloc (.cells (msgC m vn vq vd).toArray 47) = w2 at *
  have hm3 := (Mods.refl [] w2).alloc (.cells #[.pointer (some ⟨G.rb p.id, 0, none⟩)] 109)
  have hc3 := heap_alloc_new w2 (.cells #[.pointer (some ⟨G.rb p.id, 0, none⟩)] 109)
  generalize hw3 : w2.alloc (.cells #[.pointer (some ⟨G.rb p.id, 0, none⟩)] 109) = w3 at *
  have hm4 := (Mods.refl [] w3).alloc (.cells (reqC m vn vq vd n false m.tag false (.slice none 0 0) (.pointer (some ⟨G.rb p.id, 0, none⟩)) .nilFunc).toArray 115)
  have hc4 := heap_alloc_new w3 (.cells (reqC m vn vq vd n false m.tag false (.slice none 0 0) (.pointer (some ⟨G.rb p.id, 0, none⟩)) .nilFunc).toArray 115)
  generalize hw4 : w3.alloc (.cells (reqC m vn vq vd n false m.tag false (.slice none 0 0) (.pointer (some ⟨G.rb p.id, 0, none⟩)) .nilFunc).toArray 115) = w4 at *
  generalize hb1 : w.heap.size = b1 at *
  generalize hb2 : w1.heap.size = b2 at *
  generalize hb3 : w2.heap.size = b3 at *
  generalize hb4 : w3.heap.size = b4 at *
  have HC2 := Lib.hid (hm3.heap hc2 (by simp))
  have HBL := Lib.hid (built115 m vn vq vd n m.tag (some ⟨G.rb p.id, 0, none⟩))
  have HIN := Lib.hid (info47 m vn vq vd)
  obtain ⟨vo, hrel, -, hF, -⟩ := hA.ex
  have hfr := hrel.wf.req p hp
  obtain ⟨hpF, cp, -, -, hpr, -, -, hp1, -⟩ := hrel.req p hp
  have n1 : w4.cell? ⟨G.rb p.id, 1, none⟩ = some (.int .u16 (p.num : Int)) := by rw [cell_of_row _ _ _ _ _ _ hpr]; exact hp1
  have hz : w0.heap.size ≤ b4 := by
    have h1 := hm1.size
    have h2 := hm2.size
    have h3 := hm3.size
    omega
  have hz1 : w0.heap.size ≤ b1 := by omega
  have hz3 : w0.heap.size ≤ b3 := by
    have h1 := hm1.size
    have h2 := hm2.size
    omega
  have hA5 := hA.setK (b := b4) (i := 8) (v := .int .u16 (p.num : Int)) (by simp) hz
  have f8 : w4.frozen? ⟨b4, 8, none⟩ = false := frozen_of_row _ _ _ _ _ hc4
  have d8 : w4.cell? ⟨b4, 8, none⟩ = some (.int .u16 (m.oldtag : Int)) := by rw [cell_of_row _ _ _ _ _ _ hc4]; rfl
  have hc5 : (w4.setCell ⟨b4, 8, none⟩ (.int .u16 (p.num : Int))).heap[b4]? = some (.cells (reqC { m with oldtag := p.num } vn vq vd n false m.tag false (.slice none 0 0) (.pointer (some ⟨G.rb p.id, 0, none⟩)) .nilFunc).toArray 115 (0, 0)) := heap_setCell_same _ _ _ _ _ _ hc4
  have k1 := setOff (i := 8) hc4 (((hm2.trans hm3 (by simp)).trans hm4 (by simp)).heap hc1 (by simp)) (by decide) (.int .u16 (p.num : Int))
  have k3 := setOff (i := 8) hc4 (hm4.heap hc3 (by simp)) (by decide) (.int .u16 (p.num : Int))
  have hmA : Mods [] w w4 := ((hm1.trans hm2 (by simp)).trans hm3 (by simp)).trans hm4 (by simp)
  have hl4 := hm.mods hmA
  have hl5 := hl4.modsX ((Mods.refl [b4] w4).setCell (p := ⟨b4, 8, none⟩) (Or.inl (by simp)) (.int .u16 (p.num : Int))) (fun k hk hk' => hl4.not hc4 (by decide) (by decide) (by decide) k hk (by simpa using hk'))
  generalize hw5 : w4.setCell ⟨b4, 8, none⟩ (.int .u16 (p.num : Int)) = w5 at *
  have f42 : w5.frozen? ⟨b4, 42, none⟩ = false := frozen_of_row _ _ _ _ _ hc5
  have d42 : w5.cell? ⟨b4, 42, none⟩ = some .nilFunc := by rw [cell_of_row _ _ _ _ _ _ hc5]; rfl
  have hA6 := hA5.setK (b := b4) (i := 42) (v := .func (.func 82) #[] #[.pointer (some ⟨b1, 0, none⟩), .pointer (some ⟨b3, 0, none⟩)]) (by simp) hz
  have hc6 : (w5.setCell ⟨b4, 42, none⟩ (.func (.func 82) #[] #[.pointer (some ⟨b1, 0, none⟩), .pointer (some ⟨b3, 0, none⟩)])).heap[b4]? = some (.cells (reqC { m with oldtag := p.num } vn vq vd n false m.tag false (.slice none 0 0) (.pointer (some ⟨G.rb p.id, 0, none⟩)) (.func (.func 82) #[] #[.pointer (some ⟨b1, 0, none⟩), .pointer (some ⟨b3, 0, none⟩)])).toArray 115 (0, 0)) := heap_setCell_same _ _ _ _ _ _ hc5
  have j1 := setOff (i := 42) hc5 k1 (by decide) (.func (.func 82) #[] #[.pointer (some ⟨b1, 0, none⟩), .pointer (some ⟨b3, 0, none⟩)])
  have j3 := setOff (i := 42) hc5 k3 (by decide) (.func (.func 82) #[] #[.pointer (some ⟨b1, 0, none⟩), .pointer (some ⟨b3, 0, none⟩)])
  have hl6 := hl5.modsX ((Mods.refl [b4] w5).setCell (p := ⟨b4, 42, none⟩) (Or.inl (by simp)) (.func (.func 82) #[] #[.pointer (some ⟨b1, 0, none⟩), .pointer (some ⟨b3, 0, none⟩)])) (fun k hk hk' => hl5.not hc5 (by decide) (by decide) (by decide) k hk (by simpa using hk'))
  generalize hw6 : w5.setCell ⟨b4, 42, none⟩ (.func (.func 82) #[] #[.pointer (some ⟨b1, 0, none⟩), .pointer (some ⟨b3, 0, none⟩)]) = w6 at *
  have q1 : w6.cell? ⟨b1, 0, none⟩ = some (.pointer (some ⟨r, 0, none⟩)) := by rw [cell_of_row _ _ _ _ _ _ j1]; rfl
  obtain ⟨vo6, hrel6, -⟩ := hA6.ex
  have mo := G.req_more [b4, b1, b3] b4 R.made
  obtain ⟨_, c6, _, _, hpr6, -, -, hp6, -⟩ := hrel6.req p hp
  have hids := fun x hx => (hrel6.wf.req x hx).2.1
  have hready : Ready w6 r R G [b4, b1, b3] b4 (flushQ n m.tag p.id) { m with oldtag := p.num } vn vq vd (.slice none 0 0) (.pointer (some ⟨G.rb p.id, 0, none⟩)) (.func (.func 82) #[] #[.pointer (some ⟨b1, 0, none⟩), .pointer (some ⟨b3, 0, none⟩)]) := by
    refine ⟨hc6, hk, ⟨hl6.names, hl6.qids, hl6.data⟩, hsm, ⟨none, 0, rfl, Nat.le_refl _, by decide, Or.inl rfl, by simp⟩, Or.inl ⟨rfl, b1, b3, rfl, by simp [Gh.req], by simp [Gh.req], j1, ?_, ?_, ⟨c6, p.num, ?_, hp6, ?_, ?_⟩, ?_⟩, by simp, fun _ => hpF⟩
    · show w6.heap[b3]? = some (.cells #[.pointer (some ⟨(G.req [b4, b1, b3] b4 (R.made + 1)).rb p.id, 0, none⟩)] 109 (0, 0))
      rw [mo.rb _ hfr.2.1]
      exact j3
    · show (G.req [b4, b1, b3] b4 (R.made + 1)).rb p.id ∈ _
      rw [mo.rb _ hfr.2.1]
      exact mo.sub _ hpF
    · show w6.heap[(G.req [b4, b1, b3] b4 (R.made + 1)).rb p.id]? = _
      rw [mo.rb _ hfr.2.1]
      exact hpr6
    · have h1 := hfr.2.2.1
      have h2 := hrel6.wf.tags.2
      omega
    · intro x hx e
      rw [em_id hrel6.wf hp hx e]
    · intro x hx e
      change (G.req [b4, b1, b3] b4 (R.made + 1)).rb x.id = (G.req [b4, b1, b3] b4 (R.made + 1)).rb p.id at e
      rw [mo.rb _ (hids x hx), mo.rb _ hfr.2.1] at e
      exact hrel6.rbi x hx p hp e
  have htk : R.Takes (flushQ n m.tag p.id) := by
    refine ⟨ha.client, by show answerK 108 ≠ none; decide, ha.fits.tag, by simp [flushQ], fun e => absurd rfl e, fun _ _ => ha.live, by simp [flushQ], hfr.2.1, fun _ x hx ho e => under_none ha.none x hx ho e⟩
  have hlt : ∀ k ∈ listB vn vq vd ++ K, k < b1 := fun k hk => by
    obtain ⟨_, _, _, _, h4⟩ := h.ex
    have := (h4 k hk).1
    omega
  have hb14 : b1 ≤ b3 ∧ b3 ≤ b4 := by
    have h1 := hm1.size
    have h2 := hm2.size
    have h3 := hm3.size
    omega
  have hA7 : St w0 F0 ([b4, b1, b3] ++ (listB vn vq vd ++ K)) r R R.used G L w6 := hA6.keep (fun k hk => by
    simp only [List.mem_append, List.mem_cons, List.not_mem_nil, or_false] at hk ⊢
    rcases hk with (h | h | h) | h | h <;> simp [h])
  have HS := Lib.hid (send_any (K := K) hA7 hready htk ht (by
    intro k hk
    simp at hk
    rcases hk with rfl | rfl | rfl <;> assumption) (by
    intro k hk hk'
    have := hlt k (by simp [hk])
    simp at hk'
    omega) hL)
  have hmf : ∀ (fn : Fn) (first cap : Array Value) (w : World), (Instr.makeFunc fn first cap).run Tryz.prog w = .ok (.func fn first cap) w := fun _ _ _ _ => rfl
  have r1 : w3.cell? ⟨b2, 1, none⟩ = some (.int .u16 (m.tag : Int)) := by rw [cell_of_row _ _ _ _ _ _ (hm3.heap hc2 (by simp))]; rfl
  have r3 : w3.cell? ⟨b3, 0, none⟩ = some (.pointer (some ⟨G.rb p.id, 0, none⟩)) := by rw [cell_of_row _ _ _ _ _ _ hc3]; rfl
  have r34 : w4.cell? ⟨b3, 0, none⟩ = some (.pointer (some ⟨G.rb p.id, 0, none⟩)) := by rw [cell_of_row _ _ _ _ _ _ (hm4.heap hc3 (by simp))]; rfl
  clear h hA hA5 hA6 hA7 hm hsm ha hp ht hrel hF hfr hpF hpr hp1 hz hz1 hz3 hsz hm1 hm2 hm3 hm4 hc1 hc2 hc3 hc4 hc5 hc6 k1 k3 j1 j3 hmA hl4 hl5 hl6 hrel6 mo hpr6 hp6 hids hready htk hlt hb14
  generalize (msgC m vn vq vd).toArray = mc at *
  generalize (reqC m vn vq vd n false m.tag false (.slice none 0 0) (.pointer (some ⟨G.rb p.id, 0, none⟩)) .nilFunc).toArray = rc at *
  go_enter Tryz.func60, Tryz.ntmps60
  go_wp2_with (first | (refine wpList_load_row rfl 47 _ rfl b2 rfl 47 mc (0, 0) _ HC2.out Tryz.underlying47 rfl HIN.out ?_) | (refine wpList_built rfl 115 _ rfl rc (by simp only [List.map_toArray, List.map_cons, List.map_nil]; exact HBL.out) ?_))
  refine HS.out.mono ?_
  rintro e w7 ⟨rfl, o, ho1, ho2, ho3⟩
  have H1 := Lib.hid ho1
  have H2 := Lib.hid ho2
  have H3 := Lib.hid ho3
  clear ho1 ho2 ho3
  go_wp2_with fail
  go_end0
  exact ⟨rfl, o, _, H1.out, H2.out, H3.out⟩
end
end Go.Proofs.YtlgoeipgmjcboaaGreatDoor
namespace Go.Proofs.YtlgoeipgmjcboaaGreatDoor
open Go.RowKit Me
theorem used_new {R : RelP} (h : R.Wf) {i : Nat} (hi : R.made < i) : R.used i = 0 := by
  unfold RelP.used
  refine List.sum_eq_zero_iff_forall_eq_nat.2 fun x hx => ?_
  obtain ⟨q, hq, rfl⟩ := List.mem_map.1 hx
  refine List.count_eq_zero.2 fun hi' => ?_
  have := (h.uses_le hq).1 i hi'
  omega
/-- What a new fid changes, and what it does not. -/
theorem fresh_facts {R R' : RelP} {n fid num id : Nat} (h : R.fresh n fid = some (R', num, id)) : R'.used = R.used ∧ R'.clients = R.clients ∧ R'.reqs = R.reqs ∧ R'.tags = R.tags ∧ R'.tag = R.tag ∧ (∀ l ∈ R.links, l ∈ R'.links) ∧ (id ≠ 0 → ∃ l ∈ R'.links, l.id = id) ∧ R.made ≤ R'.made ∧ R'.msize = R.msize := by
  unfold RelP.fresh at h
  split at h
  · cases h
    exact ⟨rfl, rfl, rfl, rfl, rfl, fun _ h => h, fun h => absurd rfl h, Nat.le_refl _, rfl⟩
  · split at h
    · rename_i l hl
      cases h
      exact ⟨rfl, rfl, rfl, rfl, rfl, fun _ h => h, fun _ => ⟨l, (link_mem hl).1, rfl⟩, Nat.le_refl _, rfl⟩
    · split at h
      · cases h
      · cases h
        exact ⟨rfl, rfl, rfl, rfl, rfl, fun l hl => List.mem_append.2 (Or.inl hl), fun _ => ⟨_, List.mem_append.2 (Or.inr (List.mem_singleton.2 rfl)), rfl⟩, Nat.le_succ _, rfl⟩
theorem old_facts {R : RelP} {n fid : Nat} : (R.old n fid).2 ≠ 0 → ∃ l ∈ R.links, l.id = (R.old n fid).2 := by
  unfold RelP.old
  split
  · intro h
    exact absurd rfl h
  · split
    · intro h
      exact absurd rfl h
    · rename_i l hl
      intro _
      exact ⟨l, (link_mem hl).1, rfl⟩
/-- A request that is being made. -/
structure Mk (w0 : World) (F0 K : List Nat) (r : Nat) (R : RelP) (G : Gh) (L : List OutV) (b n : Nat) (m : MsgP) (vn vq vd : Value) (tag : Nat) (uses : List Nat) (vu : Value) (w : World) : Prop where
  st : St w0 F0 (b :: (vu.ownBlock.toList ++ K)) r R R.used G L w
  row : w.heap[b]? = some (.cells (reqC m vn vq vd n false tag false vu (.pointer none) .nilFunc).toArray 115 (0, 0))
  list : w.ownsRow 0 146 1 vu uses.length (ptrs G uses)
  new : w0.heap.size ≤ b ∧ ∀ k, vu.ownBlock = some k → w0.heap.size ≤ k
  kx : ∀ k ∈ K, k ≠ b ∧ vu.ownBlock ≠ some k
  ids : ∀ i ∈ uses, ∃ l ∈ R.links, l.id = i
section
variable {w0 w w' : World} {F0 K K' : List Nat} {r : Nat} {R : RelP} {G : Gh} {L : List OutV} {b n : Nat} {m : MsgP} {vn vq vd vu : Value} {tag : Nat} {uses : List Nat}
theorem Mk.draft (h : Mk w0 F0 K r R G L b n m vn vq vd tag uses vu w) : Draft w G b (reqC m vn vq vd n false tag false vu (.pointer none) .nilFunc).toArray n uses vu := by
  obtain ⟨vo, -, -, -, h4⟩ := h.st.ex
  exact ⟨h.row, rfl, rfl, rfl, h.list, (h4 b (by simp)).2.1, fun k hk => (h4 k (by simp [hk])).2.1⟩
theorem Mk.still (h : Mk w0 F0 K r R G L b n m vn vq vd tag uses vu w) (hm : Mods [] w w') : Mk w0 F0 K r R G L b n m vn vq vd tag uses vu w' :=
  ⟨h.st.still hm, hm.heap h.row (by simp), ownsRow_mods h.list hm (by simp), h.new, h.kx, h.ids⟩
/-- A cell of the request that is not its list is written. -/
theorem Mk.set {m' : MsgP} {i : Nat} {v : Value} (h : Mk w0 F0 K r R G L b n m vn vq vd tag uses vu w) (hr : (w.setCell ⟨b, i, none⟩ v).heap[b]? = some (.cells (reqC m' vn vq vd n false tag false vu (.pointer none) .nilFunc).toArray 115 (0, 0))) :
    Mk w0 F0 K r R G L b n m' vn vq vd tag uses vu (w.setCell ⟨b, i, none⟩ v) := by
  refine ⟨?_, hr, ownsRow_set h.list (a := ⟨b, i, none⟩) (ownsRow_not h.list h.row (by decide)) v, h.new, h.kx, h.ids⟩
  obtain ⟨vo, h1, h2, h3, h4⟩ := h.st.ex
  have hm : Mods [b] w (w.setCell ⟨b, i, none⟩ v) := (Mods.refl [b] w).setCell (p := ⟨b, i, none⟩) (Or.inl (by simp)) _
  have hk := h4 b (by simp)
  exact ⟨⟨vo, h1.mods hm (fun k hk' e => hk.2.1 (by simp at e; rw [← e]; exact hk')), h2.modsX hm (fun k hk' e => hk.2.2 (by simp at e; rw [← e]; exact hk')), h3, fun k hk => ⟨Nat.lt_of_lt_of_le (h4 k hk).1 hm.size, (h4 k hk).2⟩⟩, h.st.mods.trans hm (fun k hk' => Or.inr (by simp at hk'; rw [hk']; exact h.new.1)), h.st.sub⟩
theorem Mk.known (h : Mk w0 F0 K r R G L b n m vn vq vd tag uses vu w) (hu : uses.length ≤ 1) (hn : n ≤ R.clients.length) (fid : Nat) (hf : fid < 4294967296) :
    Calls Tryz.prog 85 #[.pointer (some ⟨r, 0, none⟩), .pointer (some ⟨b, 0, none⟩), .int .u32 (fid : Int)] w fun e w' => e = .returned (.int .u32 (((R.old n fid).1 : Nat) : Int)) ∧ ∃ vu', Mk w0 F0 K r R G L b n m vn vq vd tag (addUse uses (R.old n fid).2) vu' w' ∧ ∀ k ∈ K, w'.heap[k]? = w.heap[k]? := by
  obtain ⟨vo, h1, h2, h3, h4⟩ := h.st.ex
  refine (known_any h1 h.draft (by omega) (Nat.le_trans hn h1.wf.many.2) fid hf).mono fun e w' ⟨e1, vu', hd, hm, hat⟩ => ⟨e1, vu', ⟨⟨⟨vo, h1.mods hm ?_, h2.modsX hm ?_, h3, ?_⟩, h.st.mods.trans hm ?_, h.st.sub⟩, hd.row, hd.list, ⟨h.new.1, fun k hk => ?_⟩, fun k hk => ⟨(h.kx k hk).1, fun e => ?_⟩, ?_⟩, fun k hk => ?_⟩
  · exact fun k hk hk' => (h4 k (by simp at hk' ⊢; rcases hk' with h | h <;> simp [h])).2.1 hk
  · exact fun k hk hk' => (h4 k (by simp at hk' ⊢; rcases hk' with h | h <;> simp [h])).2.2 hk
  · intro k hk
    simp at hk
    rcases hk with rfl | hk | hk
    · have := h4 k (by simp)
      exact ⟨Nat.lt_of_lt_of_le this.1 hm.size, this.2⟩
    · rcases hat k hk with h5 | h5
      · have := h4 k (by simp [h5])
        exact ⟨Nat.lt_of_lt_of_le this.1 hm.size, this.2⟩
      · refine ⟨(hd.list.lt k hk).2, fun h6 => ?_, fun h6 => ?_⟩
        · have := h1.lt k h6
          omega
        · have := (h2.lt k h6).2
          omega
    · have := h4 k (by simp [hk])
      exact ⟨Nat.lt_of_lt_of_le this.1 hm.size, this.2⟩
  · intro k hk
    simp at hk
    rcases hk with rfl | hk
    · exact Or.inr h.new.1
    · exact Or.inr (h.new.2 k hk)
  · rcases hat k hk with h5 | h5
    · exact h.new.2 k h5
    · exact Nat.le_trans h.st.mods.size h5
  · rcases hat k e with h5 | h5
    · exact (h.kx k hk).2 h5
    · have := (h4 k (by simp [hk])).1
      omega
  · intro i hi
    unfold addUse at hi
    split at hi
    · exact h.ids i hi
    · rename_i h0
      rcases List.mem_append.1 hi with hi | hi
      · exact h.ids i hi
      · rw [List.mem_singleton.1 hi]
        exact old_facts h0
  · refine hm.block k (h4 k (by simp [hk])).1 (fun hk' => ?_)
    simp at hk'
    rcases hk' with h5 | h5
    · exact (h.kx k hk).1 h5
    · exact (h.kx k hk).2 h5
theorem Mk.fresh (h : Mk w0 F0 K r R G L b n m vn vq vd tag uses vu w) (hu : uses.length ≤ 1) (hn1 : 1 ≤ n) (hn : n ≤ R.clients.length) (fid : Nat) (hf : fid < 4294967296) :
    Calls Tryz.prog 84 #[.pointer (some ⟨r, 0, none⟩), .pointer (some ⟨b, 0, none⟩), .int .u32 (fid : Int)] w fun e w' =>
      (R.fresh n fid = none ∧ e = .returned (.tuple #[.int .u32 0, .pointer none, .bool false]) ∧ Mods [] w w') ∨
      (∃ R' num id, R.fresh n fid = some (R', num, id) ∧ ∃ G' vu', e = .returned (.tuple #[.int .u32 ((num : Nat) : Int), .pointer (if id = 0 then none else some ⟨G'.lb id, 0, none⟩), .bool true]) ∧
        Mk w0 F0 K r R' G' L b n m vn vq vd tag (addUse uses id) vu' w' ∧ ∀ k ∈ K, w'.heap[k]? = w.heap[k]?) := by
  obtain ⟨vo, h1, h2, h3, h4⟩ := h.st.ex
  have hul : ∀ i ∈ uses, i ≤ R.made := fun i hi => by
    obtain ⟨l, hl, e⟩ := h.ids i hi
    have := (h1.wf.link l hl).2.1
    omega
  refine (fresh_any h1 (used_new h1.wf (Nat.lt_succ_self _)) h.draft (by omega) hul hn1 hn fid hf).mono fun e w' hh => ?_
  rcases hh with hh | ⟨R', num, id, e0, G', vu', e1, hrel, hd, hmore, hnew, hm, hat⟩
  · exact Or.inl hh
  · obtain ⟨f1, f2, f3, f4, f5, f6, f7, f8, f9⟩ := fresh_facts e0
    have hmb := h1.here.2.2.1
    have hX : ∀ k, (k ∈ b :: (vu.ownBlock.toList ++ K) ∨ k ∈ outB vo L) → k ∉ G'.F := fun k hk hk' => by
      rcases hnew k hk' with h5 | h5
      · rcases hk with hk | hk
        · exact (h4 k hk).2.1 h5
        · exact h3 k h5 hk
      · rcases hk with hk | hk
        · have := (h4 k hk).1
          omega
        · have := (h2.lt k hk).2
          omega
    refine Or.inr ⟨R', num, id, e0, G', vu', e1, ⟨⟨⟨vo, by rw [f1]; exact hrel, h2.modsX hm ?_, fun k hk hk' => hX k (Or.inr hk') hk, ?_⟩, h.st.mods.trans hm ?_, fun k hk => (hnew k hk).elim (h.st.sub k) (fun h5 => Or.inr (Nat.le_trans h.st.mods.size h5))⟩, hd.row, hd.list, ⟨h.new.1, fun k hk => ?_⟩, fun k hk => ⟨(h.kx k hk).1, fun e => ?_⟩, ?_⟩, fun k hk => ?_⟩
    · intro k hk hk'
      simp at hk'
      rcases hk' with rfl | rfl | h5
      · exact h3 _ hmb hk
      · exact (h4 _ (by simp)).2.2 hk
      · exact (h4 k (by simp [h5])).2.2 hk
    · intro k hk
      simp at hk
      rcases hk with rfl | hk | hk
      · have := h4 k (by simp)
        exact ⟨Nat.lt_of_lt_of_le this.1 hm.size, hX k (Or.inl (by simp)), this.2.2⟩
      · rcases hat k hk with h5 | h5
        · have := h4 k (by simp [h5])
          exact ⟨Nat.lt_of_lt_of_le this.1 hm.size, hX k (Or.inl (by simp [h5])), this.2.2⟩
        · refine ⟨(hd.list.lt k hk).2, hd.outs k hk, fun h6 => ?_⟩
          have := (h2.lt k h6).2
          omega
      · have := h4 k (by simp [hk])
        exact ⟨Nat.lt_of_lt_of_le this.1 hm.size, hX k (Or.inl (by simp [hk])), this.2.2⟩
    · intro k hk
      simp at hk
      rcases hk with rfl | rfl | hk
      · exact h.st.sub _ hmb
      · exact Or.inr h.new.1
      · exact Or.inr (h.new.2 k hk)
    · rcases hat k hk with h5 | h5
      · exact h.new.2 k h5
      · exact Nat.le_trans h.st.mods.size h5
    · rcases hat k e with h5 | h5
      · exact (h.kx k hk).2 h5
      · have := (h4 k (by simp [hk])).1
        omega
    · intro i hi
      unfold addUse at hi
      split at hi
      · obtain ⟨l, hl, e⟩ := h.ids i hi
        exact ⟨l, f6 l hl, e⟩
      · rename_i h0
        rcases List.mem_append.1 hi with hi | hi
        · obtain ⟨l, hl, e⟩ := h.ids i hi
          exact ⟨l, f6 l hl, e⟩
        · rw [List.mem_singleton.1 hi]
          exact f7 h0
    · refine hm.block k (h4 k (by simp [hk])).1 (fun hk' => ?_)
      simp at hk'
      rcases hk' with h5 | h5 | h5
      · exact (h4 k (by simp [hk])).2.1 (h5 ▸ hmb)
      · exact (h.kx k hk).1 h5
      · exact (h.kx k hk).2 h5
theorem LRow.of_own {base : Nat} {G1 : Gh} {v : Value} {l : List Nat} (h : w.ownsRow base 146 1 v l.length (ptrs G1 l)) (hF : ∀ k, v.ownBlock = some k → k ∈ G1.F) : LRow w G1 v l := by
  rcases h.2 with ⟨rfl, hz⟩ | ⟨g, cap, cur, rfl, hb, hg, hn, hc, hcur⟩
  · obtain rfl : l = [] := List.eq_nil_of_length_eq_zero hz
    exact ⟨none, 0, rfl, Nat.le_refl _, by decide, Or.inl rfl, by simp⟩
  · refine ⟨_, cap, rfl, hn, hc, Or.inr ⟨g, cur, rfl, hF g rfl, hg, fun j i hj => ?_⟩, by simp⟩
    have hp : (ptrs G1 l)[j]? = some (.pointer (some ⟨G1.lb i, 0, none⟩)) := by
      unfold ptrs
      rw [List.getElem?_map, hj]
      rfl
    rw [← hcur.2, List.getElem?_take] at hp
    split at hp
    · simpa using hp
    · cases hp
end
end Go.Proofs.YtlgoeipgmjcboaaGreatDoor
namespace Go.Proofs.YtlgoeipgmjcboaaGreatDoor
open Go.RowKit Me
theorem ownsRow_keep {w w' : World} {base : Nat} {e : TypeId} {size : Nat} {v : Value} {n : Nat} {xs : List Value} (h : w.ownsRow base e size v n xs) (hk : ∀ k, v.ownBlock = some k → w'.heap[k]? = w.heap[k]?) : w'.ownsRow base e size v n xs := by
  refine ⟨h.1, ?_⟩
  rcases h.2 with h2 | ⟨g, cap, cur, rfl, hb, hg, r⟩
  · exact Or.inl h2
  · exact Or.inr ⟨g, cap, cur, rfl, hb, by rw [hk g rfl]; exact hg, r⟩
theorem OwnM.keep {w w' : World} {base : Nat} {m : MsgP} {vn vq vd : Value} (h : OwnM w base m vn vq vd) (hk : ∀ k ∈ listB vn vq vd, w'.heap[k]? = w.heap[k]?) : OwnM w' base m vn vq vd :=
  ⟨ownsRow_keep h.names (fun k e => hk k (by simp [listB, e])), ownsRow_keep h.qids (fun k e => hk k (by simp [listB, e])), ownsRow_keep h.data (fun k e => hk k (by simp [listB, e]))⟩
def passQ (n : Nat) (own : Bool) (kind tag : Nat) (uses : List Nat) (fresh fid many : Nat) : ReqP := ⟨0, 0, n, own, false, kind, tag, uses, fresh, fid, 0, many⟩
section
variable {w0 w w' : World} {F0 K K' : List Nat} {r : Nat} {R : RelP} {G : Gh} {L : List OutV} {b n : Nat} {m : MsgP} {vn vq vd vu : Value} {tag : Nat} {uses : List Nat}
set_option maxRecDepth 100000 in
theorem sends_own {t fresh fid : Nat} {own : Bool} {pl : Option Addr} (hst0 : St w0 F0 (b :: (vu.ownBlock.toList ++ (listB vn vq vd ++ K))) r R R.used G L w) (hrow0 : w.heap[b]? = some (.cells (reqC m vn vq vd n own tag false vu (.pointer none) .nilFunc).toArray 115 (0, 0)))
    (hlist : w.ownsRow 0 146 1 vu uses.length (ptrs G uses)) (hnew : w0.heap.size ≤ b ∧ ∀ k, vu.ownBlock = some k → w0.heap.size ≤ k) (hkx : ∀ k ∈ K, k ≠ b ∧ vu.ownBlock ≠ some k) (hm : OwnM w 0 m vn vq vd) (hsm : m.names.length ≤ 100000000 ∧ m.qids.length ≤ 100000000 ∧ m.data.length ≤ 100000000)
    (hk : m.kind ≠ 108) (ht : R.tag = some t) (hpl : pl = if fresh = 0 then none else some ⟨G.lb fresh, 0, none⟩) (hq : R.Takes (passQ n own m.kind tag uses fresh fid m.names.length)) (hL : L.length ≤ 1000) :
    Calls Tryz.prog 86 #[.pointer (some ⟨b, 0, none⟩), .pointer pl] w fun e w1 => ∃ c1 c2 c3 c4 : Addr, e = .returned (.func (.func 121) #[] #[.pointer (some c1), .pointer (some c2), .pointer (some c3), .pointer (some c4)]) ∧
      w1.frozen? ⟨b, 42, none⟩ = false ∧ w1.cell? ⟨b, 42, none⟩ = some .nilFunc ∧
      Calls Tryz.prog 83 #[.pointer (some ⟨r, 0, none⟩), .pointer (some ⟨b, 0, none⟩)] (w1.setCell ⟨b, 42, none⟩ (.func (.func 121) #[] #[.pointer (some c1), .pointer (some c2), .pointer (some c3), .pointer (some c4)])) fun e w' => e = .returned (.tuple #[]) ∧
        ∃ (o : OutV) (G' : Gh), (G'.gc = G.gc ∧ G'.cb = G.cb) ∧ o.c = 0 ∧ o.m = { m with tag := t } ∧ St w0 F0 K r (R.put (passQ n own m.kind tag uses fresh fid m.names.length) t) (R.put (passQ n own m.kind tag uses fresh fid m.names.length) t).used G' (L ++ [o]) w' := by
  obtain ⟨An, cn, hvn, -⟩ := ownsRow_slice hm.names
  have h11 : (reqC m vn vq vd n own tag false vu (.pointer none) .nilFunc).toArray[11]? = some (.slice An m.names.length cn) := by
    show some vn = _
    rw [hvn]
  obtain ⟨vo, e1, e2, e3, e4⟩ := hst0.ex
  have hdr : Draft w G b (reqC m vn vq vd n own tag false vu (.pointer none) .nilFunc).toArray n uses vu := ⟨hrow0, rfl, rfl, rfl, hlist, (e4 b (by simp)).2.1, fun k hk => (e4 k (by simp [hk])).2.1⟩
  refine (comes_any hdr hq.few (show _ = some (Value.int .u8 (m.kind : Int)) from rfl) h11 pl).mono ?_
  rintro e w1 ⟨c1, c2, c3, c4, vc, rfl, g1, g2, g3, g4, r1, r2, r3, r4, hvc, hm1⟩
  refine ⟨⟨c1, 0, none⟩, ⟨c2, 0, none⟩, ⟨c3, 0, none⟩, ⟨c4, 0, none⟩, rfl, ?_⟩
  have hrow1 := hm1.heap hrow0 (by simp)
  have hlist1 := ownsRow_mods hlist hm1 (by simp)
  refine ⟨frozen_of_row _ _ _ _ _ hrow1, by rw [cell_of_row _ _ _ _ _ _ hrow1]; rfl, ?_⟩
  generalize hvt : Value.func (.func 121) #[] #[.pointer (some ⟨c1, 0, none⟩), .pointer (some ⟨c2, 0, none⟩), .pointer (some ⟨c3, 0, none⟩), .pointer (some ⟨c4, 0, none⟩)] = vt
  have hrow2 : (w1.setCell ⟨b, 42, none⟩ vt).heap[b]? = some (.cells (reqC m vn vq vd n own tag false vu (.pointer none) vt).toArray 115 (0, 0)) := heap_setCell_same _ _ _ _ _ _ hrow1
  have hmb : Mods [b] w1 (w1.setCell ⟨b, 42, none⟩ vt) := (Mods.refl [b] w1).setCell (p := ⟨b, 42, none⟩) (Or.inl (by simp)) _
  have hub : vu.ownBlock ≠ some b := ownsRow_not hlist1 hrow1 (by decide)
  have hcb : vc.ownBlock ≠ some b := ownsRow_not hvc hrow1 (by decide)
  have hl2 := (hm.mods hm1).modsX hmb (fun k hk hk' => (hm.mods hm1).not hrow1 (by decide) (by decide) (by decide) k hk (by simpa using hk'))
  have hvu2 : (w1.setCell ⟨b, 42, none⟩ vt).ownsRow 0 146 1 vu uses.length (ptrs G uses) := ownsRow_set hlist1 (a := ⟨b, 42, none⟩) hub vt
  have hvc2 := ownsRow_set hvc (a := ⟨b, 42, none⟩) hcb vt
  have s1 := setOff (i := 42) hrow1 r1 (by decide) vt
  have s2 := setOff (i := 42) hrow1 r2 (by decide) vt
  have s3 := setOff (i := 42) hrow1 r3 (by decide) vt
  have s4 := setOff (i := 42) hrow1 r4 (by decide) vt
  have hzz := hst0.mods.size
  -- what is of the request's own
  let X : List Nat := b :: c1 :: c2 :: c3 :: c4 :: (vu.ownBlock.toList ++ vc.ownBlock.toList)
  have hXm : ∀ k, k ∈ X ↔ k = b ∨ k = c1 ∨ k = c2 ∨ k = c3 ∨ k = c4 ∨ vu.ownBlock = some k ∨ vc.ownBlock = some k := fun k => by simp [X]
  have hXnew : ∀ k ∈ X, (k = b ∨ vu.ownBlock = some k) ∨ w.heap.size ≤ k := fun k hk => by
    rcases (hXm k).1 hk with h | h | h | h | h | h | h
    · exact Or.inl (Or.inl h)
    · exact Or.inr (h ▸ g1)
    · exact Or.inr (h ▸ g2)
    · exact Or.inr (h ▸ g3)
    · exact Or.inr (h ▸ g4)
    · exact Or.inl (Or.inr h)
    · exact Or.inr (hvc.lt k h).1
  have hlt1 : ∀ k ∈ X, k < w1.heap.size := fun k hk => by
    have hlt : ∀ {j : Nat} {o : Obj}, w1.heap[j]? = some o → j < w1.heap.size := fun hj => (Array.getElem?_eq_some_iff.1 hj).1
    rcases (hXm k).1 hk with h | h | h | h | h | h | h
    · rw [h]; exact hlt hrow1
    · rw [h]; exact hlt r1
    · rw [h]; exact hlt r2
    · rw [h]; exact hlt r3
    · rw [h]; exact hlt r4
    · exact (hlist1.lt k h).2
    · exact (hvc.lt k h).2
  have hXF : ∀ k ∈ X, k ∉ G.F := fun k hk hk' => by
    rcases hXnew k hk with h | h
    · exact (e4 k (by rcases h with h | h <;> simp [h])).2.1 hk'
    · have := e1.lt k hk'
      omega
  have hXo : ∀ k ∈ X, k ∉ outB vo L := fun k hk hk' => by
    rcases hXnew k hk with h | h
    · exact (e4 k (by rcases h with h | h <;> simp [h])).2.2 hk'
    · have := (e2.lt k hk').2
      omega
  have hbk := e4 b (by simp)
  have hmw : Mods [b] w (w1.setCell ⟨b, 42, none⟩ vt) := (hm1.mono (by simp)).trans hmb (fun k hk => Or.inl hk)
  have hs2 := hmb.size
  have hsw := hmw.size
  have hst : St w0 F0 (X ++ (listB vn vq vd ++ K)) r R R.used G L (w1.setCell ⟨b, 42, none⟩ vt) := by
    refine ⟨⟨vo, e1.mods hmw (fun k hk hk' => hbk.2.1 (by simp at hk'; rw [← hk']; exact hk)), e2.modsX hmw (fun k hk hk' => hbk.2.2 (by simp at hk'; rw [← hk']; exact hk)), e3, fun k hk => ?_⟩, hst0.mods.trans hmw (fun k hk => Or.inr (by simp at hk; rw [hk]; exact hnew.1)), hst0.sub⟩
    rcases List.mem_append.1 hk with hk | hk
    · exact ⟨Nat.lt_of_lt_of_le (hlt1 k hk) hs2, hXF k hk, hXo k hk⟩
    · have := e4 k (by simp only [List.mem_cons, List.mem_append] at hk ⊢; exact Or.inr (Or.inr hk))
      exact ⟨Nat.lt_of_lt_of_le this.1 hsw, this.2⟩
  have hin : ∀ {k : Nat}, k ∈ X → k ∈ (G.req X b (R.made + 1)).F := fun hk => List.mem_append.2 (Or.inl hk)
  have hready : Ready (w1.setCell ⟨b, 42, none⟩ vt) r R G X b (passQ n own m.kind tag uses fresh fid m.names.length) m vn vq vd vu (.pointer none) vt := by
    refine ⟨hrow2, rfl, ⟨hl2.names, hl2.qids, hl2.data⟩, hsm, LRow.of_own (base := 0) hvu2 (fun k hk => hin ((hXm k).2 (by simp [hk]))), Or.inr ⟨hk, c1, c2, c3, c4, vc, hvt.symm, hin ((hXm _).2 (by simp)), hin ((hXm _).2 (by simp)), hin ((hXm _).2 (by simp)), hin ((hXm _).2 (by simp)), s1, s2, LRow.of_own (base := w.heap.size) hvc2 (fun k hk => hin ((hXm k).2 (by simp [hk]))), ?_, s4⟩, by simp [X], fun e => absurd e hk⟩
    rw [s3, hpl]
    rfl
  refine (send_any (K := K) hst hready hq ht (fun k hk => ?_) (fun k hk hk' => ?_) hL).mono ?_
  · rcases hXnew k hk with (h5 | h5) | h5
    · rw [h5]; exact hnew.1
    · exact hnew.2 k h5
    · exact Nat.le_trans hzz h5
  · have hK := hkx k hk
    rcases hXnew k hk' with (h5 | h5) | h5
    · exact hK.1 h5
    · exact hK.2 h5
    · have := (e4 k (by simp [hk])).1
      omega
  · rintro e w3 ⟨rfl, o, o1, o2, o3⟩
    exact ⟨rfl, o, G.req X b (R.made + 1), ⟨rfl, rfl⟩, o1, o2, o3⟩
theorem Mk.sends {t fresh fid : Nat} {pl : Option Addr} (h : Mk w0 F0 (listB vn vq vd ++ K) r R G L b n m vn vq vd tag uses vu w) (hm : OwnM w 0 m vn vq vd) (hsm : m.names.length ≤ 100000000 ∧ m.qids.length ≤ 100000000 ∧ m.data.length ≤ 100000000)
    (hk : m.kind ≠ 108) (ht : R.tag = some t) (hpl : pl = if fresh = 0 then none else some ⟨G.lb fresh, 0, none⟩) (hq : R.Takes (passQ n false m.kind tag uses fresh fid m.names.length)) (hL : L.length ≤ 1000) :
    Calls Tryz.prog 86 #[.pointer (some ⟨b, 0, none⟩), .pointer pl] w fun e w1 => ∃ c1 c2 c3 c4 : Addr, e = .returned (.func (.func 121) #[] #[.pointer (some c1), .pointer (some c2), .pointer (some c3), .pointer (some c4)]) ∧
      w1.frozen? ⟨b, 42, none⟩ = false ∧ w1.cell? ⟨b, 42, none⟩ = some .nilFunc ∧
      Calls Tryz.prog 83 #[.pointer (some ⟨r, 0, none⟩), .pointer (some ⟨b, 0, none⟩)] (w1.setCell ⟨b, 42, none⟩ (.func (.func 121) #[] #[.pointer (some c1), .pointer (some c2), .pointer (some c3), .pointer (some c4)])) fun e w' => e = .returned (.tuple #[]) ∧
        ∃ (o : OutV) (G' : Gh), (G'.gc = G.gc ∧ G'.cb = G.cb) ∧ o.c = 0 ∧ o.m = { m with tag := t } ∧ St w0 F0 K r (R.put (passQ n false m.kind tag uses fresh fid m.names.length) t) (R.put (passQ n false m.kind tag uses fresh fid m.names.length) t).used G' (L ++ [o]) w' :=
  sends_own h.st h.row h.list h.new (fun k hk => h.kx k (List.mem_append.2 (Or.inr hk))) hm hsm hk ht hpl hq hL
theorem Mk.keep (h : Mk w0 F0 K r R G L b n m vn vq vd tag uses vu w) (hk : ∀ k ∈ K', k ∈ K) : Mk w0 F0 K' r R G L b n m vn vq vd tag uses vu w :=
  ⟨h.st.keep (fun k h' => by simp only [List.mem_cons, List.mem_append] at h' ⊢; exact h'.imp id (Or.imp id (hk k))), h.row, h.list, h.new, fun k h' => h.kx k (hk k h'), h.ids⟩
end
end Go.Proofs.YtlgoeipgmjcboaaGreatDoor
namespace Go.Proofs.YtlgoeipgmjcboaaGreatDoor
open Go.RowKit Me
theorem built115' (m : MsgP) (vn vq vd : Value) (n tag : Nat) : Tryz.prog.built 115 [(0, .agg (msgC m vn vq vd).toArray), (1, .int .i64 (n : Int)), (3, .int .u16 (tag : Int))] = some (reqC m vn vq vd n false tag false (.slice none 0 0) (.pointer none) .nilFunc).toArray := by kernel_rfl
structure Pk (w0 : World) (F0 K : List Nat) (r : Nat) (R : RelP) (G : Gh) (L : List OutV) (b2 b n : Nat) (m0 m : MsgP) (vn vq vd : Value) (uses : List Nat) (vu : Value) (w : World) : Prop where
  made : Mk w0 F0 (b2 :: (listB vn vq vd ++ K)) r R G L b n m vn vq vd m0.tag uses vu w
  row : w.heap[b2]? = some (.cells (msgC m0 vn vq vd).toArray 47 (0, 0))
  own : OwnM w 0 m vn vq vd
section
variable {w0 w w' : World} {F0 K K' : List Nat} {r : Nat} {R : RelP} {G : Gh} {L : List OutV} {b2 b n : Nat} {m0 m : MsgP} {vn vq vd vu : Value} {uses : List Nat}
theorem Pk.still (h : Pk w0 F0 K r R G L b2 b n m0 m vn vq vd uses vu w) (hm : Mods [] w w') : Pk w0 F0 K r R G L b2 b n m0 m vn vq vd uses vu w' :=
  ⟨h.made.still hm, hm.heap h.row (by simp), h.own.mods hm⟩
theorem Pk.cell (h : Pk w0 F0 K r R G L b2 b n m0 m vn vq vd uses vu w) (i : Nat) : w.cell? ⟨b, i, none⟩ = (reqC m vn vq vd n false m0.tag false vu (.pointer none) .nilFunc)[i]? := by
  rw [cell_of_row _ _ _ _ _ _ h.made.row, List.getElem?_toArray]
theorem Pk.frozen (h : Pk w0 F0 K r R G L b2 b n m0 m vn vq vd uses vu w) (i : Nat) : w.frozen? ⟨b, i, none⟩ = false := frozen_of_row _ _ _ _ _ h.made.row
theorem Pk.orig (h : Pk w0 F0 K r R G L b2 b n m0 m vn vq vd uses vu w) (i : Nat) : w.cell? ⟨b2, i, none⟩ = (msgC m0 vn vq vd)[i]? := by
  rw [cell_of_row _ _ _ _ _ _ h.row, List.getElem?_toArray]
theorem Pk.set {m' : MsgP} {i : Nat} {v : Value} (h : Pk w0 F0 K r R G L b2 b n m0 m vn vq vd uses vu w)
    (he : (reqC m vn vq vd n false m0.tag false vu (.pointer none) .nilFunc).toArray.setIfInBounds i v = (reqC m' vn vq vd n false m0.tag false vu (.pointer none) .nilFunc).toArray) (hl : m'.names = m.names ∧ m'.qids = m.qids ∧ m'.data = m.data) :
    Pk w0 F0 K r R G L b2 b n m0 m' vn vq vd uses vu (w.setCell ⟨b, i, none⟩ v) := by
  have hr : (w.setCell ⟨b, i, none⟩ v).heap[b]? = some (.cells (reqC m' vn vq vd n false m0.tag false vu (.pointer none) .nilFunc).toArray 115 (0, 0)) := by
    rw [← he]
    exact heap_setCell_same _ _ _ _ _ _ h.made.row
  have hm : Mods [b] w (w.setCell ⟨b, i, none⟩ v) := (Mods.refl [b] w).setCell (p := ⟨b, i, none⟩) (Or.inl (by simp)) _
  have ho := h.own.modsX hm (fun k hk hk' => h.own.not h.made.row (by decide) (by decide) (by decide) k hk (by simpa using hk'))
  exact ⟨h.made.set hr, setOff h.made.row h.row (by decide) v, ⟨by rw [hl.1]; exact ho.names, by rw [hl.2.1]; exact ho.qids, by rw [hl.2.2]; exact ho.data⟩⟩
theorem Pk.keep (h : Pk w0 F0 K r R G L b2 b n m0 m vn vq vd uses vu w) {R' : RelP} {G' : Gh} {uses' : List Nat} {vu' : Value} (hk : Mk w0 F0 (b2 :: (listB vn vq vd ++ K)) r R' G' L b n m vn vq vd m0.tag uses' vu' w') (hh : ∀ k ∈ b2 :: (listB vn vq vd ++ K), w'.heap[k]? = w.heap[k]?) :
    Pk w0 F0 K r R' G' L b2 b n m0 m vn vq vd uses' vu' w' :=
  ⟨hk, by rw [hh b2 (by simp)]; exact h.row, h.own.keep (fun k hk => hh k (by simp [hk]))⟩
theorem Pk.known (h : Pk w0 F0 K r R G L b2 b n m0 m vn vq vd uses vu w) (hu : uses.length ≤ 1) (hn : n ≤ R.clients.length) (fid : Nat) (hf : fid < 4294967296) :
    Calls Tryz.prog 85 #[.pointer (some ⟨r, 0, none⟩), .pointer (some ⟨b, 0, none⟩), .int .u32 (fid : Int)] w fun e w' => e = .returned (.int .u32 (((R.old n fid).1 : Nat) : Int)) ∧ ∃ vu', Pk w0 F0 K r R G L b2 b n m0 m vn vq vd (addUse uses (R.old n fid).2) vu' w' :=
  (h.made.known hu hn fid hf).mono fun _ _ ⟨e1, vu', h1, h2⟩ => ⟨e1, vu', h.keep h1 h2⟩
theorem Pk.fresh (h : Pk w0 F0 K r R G L b2 b n m0 m vn vq vd uses vu w) (hu : uses.length ≤ 1) (hn1 : 1 ≤ n) (hn : n ≤ R.clients.length) (fid : Nat) (hf : fid < 4294967296) :
    Calls Tryz.prog 84 #[.pointer (some ⟨r, 0, none⟩), .pointer (some ⟨b, 0, none⟩), .int .u32 (fid : Int)] w fun e w' =>
      (R.fresh n fid = none ∧ e = .returned (.tuple #[.int .u32 0, .pointer none, .bool false]) ∧ Pk w0 F0 K r R G L b2 b n m0 m vn vq vd uses vu w') ∨
      (∃ R' num id, R.fresh n fid = some (R', num, id) ∧ ∃ G' vu', e = .returned (.tuple #[.int .u32 ((num : Nat) : Int), .pointer (if id = 0 then none else some ⟨G'.lb id, 0, none⟩), .bool true]) ∧
        Pk w0 F0 K r R' G' L b2 b n m0 m vn vq vd (addUse uses id) vu' w') :=
  (h.made.fresh hu hn1 hn fid hf).mono fun _ _ hh => hh.imp (fun ⟨e0, e1, hm⟩ => ⟨e0, e1, h.still hm⟩) (fun ⟨R', num, id, e0, G', vu', e1, h1, h2⟩ => ⟨R', num, id, e0, G', vu', e1, h.keep h1 h2⟩)
theorem Pk.start (h : St w0 F0 (listB vn vq vd ++ K) r R R.used G L w) (hm : OwnM w 0 m vn vq vd) (n : Nat) :
    Pk w0 F0 K r R G L w.heap.size (w.heap.size + 1) n m m vn vq vd [] (.slice none 0 0) ((w.alloc (.cells (msgC m vn vq vd).toArray 47)).alloc (.cells (reqC m vn vq vd n false m.tag false (.slice none 0 0) (.pointer none) .nilFunc).toArray 115)) := by
  have hA := (h.alloc (.cells (msgC m vn vq vd).toArray 47)).alloc (.cells (reqC m vn vq vd n false m.tag false (.slice none 0 0) (.pointer none) .nilFunc).toArray 115)
  have hm1 := (Mods.refl [] w).alloc (.cells (msgC m vn vq vd).toArray 47)
  have hc1 := heap_alloc_new w (.cells (msgC m vn vq vd).toArray 47)
  have hz : (w.alloc (.cells (msgC m vn vq vd).toArray 47)).heap.size = w.heap.size + 1 := by simp
  have hm2 := (Mods.refl [] (w.alloc (.cells (msgC m vn vq vd).toArray 47))).alloc (.cells (reqC m vn vq vd n false m.tag false (.slice none 0 0) (.pointer none) .nilFunc).toArray 115)
  have hc2 := heap_alloc_new (w.alloc (.cells (msgC m vn vq vd).toArray 47)) (.cells (reqC m vn vq vd n false m.tag false (.slice none 0 0) (.pointer none) .nilFunc).toArray 115)
  rw [hz] at hc2 hA
  have hsz := h.mods.size
  obtain ⟨_, _, _, _, h4⟩ := h.ex
  refine ⟨⟨hA.keep (fun k hk => by simp [Value.ownBlock] at hk ⊢; rcases hk with h | h | h | h <;> simp [h]), hc2, ⟨rfl, Or.inl ⟨rfl, rfl⟩⟩, ⟨by omega, by simp [Value.ownBlock]⟩, fun k hk => ⟨fun e => ?_, by simp [Value.ownBlock]⟩, by simp⟩, hm2.heap hc1 (by simp), (hm.mods hm1).mods hm2⟩
  rcases List.mem_cons.1 hk with hk | hk
  · omega
  · have := (h4 k hk).1
    omega
theorem Pk.rest (h : Pk w0 F0 K r R G L b2 b n m0 m vn vq vd uses vu w) : St w0 F0 K r R R.used G L w :=
  h.made.st.keep (fun k hk => by simp [hk])
end
end Go.Proofs.YtlgoeipgmjcboaaGreatDoor
