/- A client's row is written; more of a relay's memory is known. -/
import Derived.Test.YtlgoeipgmjcboaaGreatDoorJw
namespace Go.Proofs.YtlgoeipgmjcboaaGreatDoor
open Go.RowKit Me
/-- Of the blocks F all stay but clients and requests. -/
structure Keep2 (F : List Nat) (w w' : World) : Prop where
  size : w.heap.size ≤ w'.heap.size
  cells : ∀ b cs t fr, b ∈ F → t ≠ 85 → t ≠ 115 → w.heap[b]? = some (.cells cs t fr) → w'.heap[b]? = some (.cells cs t fr)
  maps : ∀ b es c, b ∈ F → w.heap[b]? = some (.map es c) → w'.heap[b]? = some (.map es c)
section
variable {w0 w w' : World} {F0 K : List Nat} {r n : Nat} {R R' : RelP} {U : Nat → Nat} {G G' : Gh} {L : List OutV} {vo : Value}
theorem Keep2.trans {F : List Nat} {w1 : World} (h : Keep2 F w w1) (k : Keep2 F w1 w') : Keep2 F w w' :=
  ⟨Nat.le_trans h.size k.size, fun b cs t fr hb h1 h2 e => k.cells b cs t fr hb h1 h2 (h.cells b cs t fr hb h1 h2 e), fun b es c hb e => k.maps b es c hb (h.maps b es c hb e)⟩
theorem Keep2.mods {F X : List Nat} (hm : Mods X w w') (hx : ∀ k ∈ X, ∃ cs t fr, w.heap[k]? = some (.cells cs t fr) ∧ (t = 85 ∨ t = 115)) : Keep2 F w w' where
  size := hm.size
  cells := fun b cs t fr _ h1 h2 e => hm.heap e (fun hb => by
    obtain ⟨cs', t', fr', e', ht⟩ := hx b hb
    rw [e] at e'
    cases e'
    rcases ht with ht | ht
    · exact h1 ht
    · exact h2 ht)
  maps := fun b es c _ e => hm.heap e (fun hb => by
    obtain ⟨cs', t', fr', e', -⟩ := hx b hb
    rw [e] at e'
    cases e')
theorem PMap.keep2 {P : Program} {k : TypeId} {α : Type} {KK : KB P k α} {b : Nat} {M : List (α × Nat)} {F : List Nat} (h : PMap KK w b M) (hb : b ∈ F) (hk : Keep2 F w w') : PMap KK w' b M := by
  obtain ⟨D, ⟨es, clock, h1, F', h2⟩, h3⟩ := h
  exact ⟨D, ⟨es, clock, hk.maps b es clock hb h1, F', h2⟩, h3⟩
theorem IsRel.re (h : IsRel w r R U G vo) (hwf : R'.Wf) (hk : Keep2 G.F w w') (e1 : R'.msize = R.msize ∧ R'.fids = R.fids ∧ R'.tags = R.tags ∧ R'.clients.length = R.clients.length) (hl : R'.links = R.links)
    (hr : R'.reqs.map (fun q => (q.num, q.id)) = R.reqs.map fun q => (q.num, q.id)) (hcli : ∀ i c, R'.clients[i]? = some c → IsCli w' G.F (G.cb i) c) (hreq : ∀ q ∈ R'.reqs, IsReq w' r G R' q) : IsRel w' r R' U G vo := by
  obtain ⟨a1, a2, a3, a4⟩ := e1
  have hid : ∀ q ∈ R'.reqs, ∃ p ∈ R.reqs, p.id = q.id := fun q hq => by
    have : (q.num, q.id) ∈ R.reqs.map fun q => (q.num, q.id) := by
      rw [← hr]
      exact List.mem_map.2 ⟨q, hq, rfl⟩
    obtain ⟨p, hp, e⟩ := List.mem_map.1 this
    exact ⟨p, hp, (Prod.mk.inj e).2⟩
  have hM : R'.reqs.map (fun q => (q.num, G.rb q.id)) = R.reqs.map fun q => (q.num, G.rb q.id) := by
    have := congrArg (List.map fun x : Nat × Nat => (x.1, G.rb x.2)) hr
    rw [List.map_map, List.map_map] at this
    exact this
  refine ⟨hwf, h.here, fun k hk' => Nat.lt_of_lt_of_le (h.lt k hk') hk.size, by rw [a1, a2, a3, a4]; exact hk.cells _ _ _ _ h.here.1 (by decide) (by decide) h.cells, ⟨by rw [a4]; exact h.row.1, h.row.2.1, ?_⟩, hcli, fun i j hi hj => h.cbi i j (by rw [← a4]; exact hi) (by rw [← a4]; exact hj),
    by rw [hl]; exact PMap.keep2 h.links h.here.2.2.1 hk, fun l hl' => ?_, by rw [hl]; exact h.lbi, by rw [hM]; exact PMap.keep2 h.under h.here.2.2.2 hk, hreq, fun q hq p hp e => ?_, h.apart⟩
  · obtain ⟨cur, h1, h2⟩ := h.row.2.2
    exact ⟨cur, hk.cells _ _ _ _ h.here.2.1 (by decide) (by decide) h1, fun i hi => h2 i (by rw [← a4]; exact hi)⟩
  · rw [hl] at hl'
    exact ⟨(h.link l hl').1, hk.cells _ _ _ _ (h.link l hl').1 (by decide) (by decide) (h.link l hl').2⟩
  · obtain ⟨q', hq', e1⟩ := hid q hq
    obtain ⟨p', hp', e2⟩ := hid p hp
    rw [← e1, ← e2] at e ⊢
    exact h.rbi q' hq' p' hp' e
/-- What a client may be. -/
def CliP.Ok (R : RelP) (c : CliP) : Prop := (c.msize = 0 ∨ 512 ≤ c.msize) ∧ c.msize ≤ R.msize ∧ c.vsize < 4294967296 ∧ (c.waits = true → 512 ≤ c.vsize) ∧ c.ver.size ≤ 100000000
theorem cli_set (hn : 1 ≤ n ∧ n ≤ R.clients.length) (c : CliP) (i : Nat) (hi : 1 ≤ i) : (R.setCli n c).cli i = if i = n then c else R.cli i := by
  unfold RelP.cli RelP.setCli
  simp only [List.getD_eq_getElem?_getD]
  by_cases e : i = n
  · subst e
    rw [if_pos rfl, List.getElem?_set_self (by omega)]
    rfl
  · rw [if_neg e, List.getElem?_set_ne (by omega)]
theorem RelP.Wf.setCli (h : R.Wf) (hn : 1 ≤ n ∧ n ≤ R.clients.length) {c : CliP} (hc : c.Ok R) (hq : ∀ q ∈ R.reqs, q.client = n → q.own = false → q.lost = false → 512 ≤ c.msize ∧ c.ending = false) : (R.setCli n c).Wf := by
  have hlen : (R.setCli n c).clients.length = R.clients.length := by simp [RelP.setCli]
  refine ⟨h.msize, h.fids, h.tags, by rw [hlen]; exact h.many, fun d hd => ?_, fun l hl => by rw [hlen]; exact h.link l hl, h.links, fun q hq' => ?_, h.reqs, h.names⟩
  · rcases List.mem_or_eq_of_mem_set hd with hd | rfl
    · exact h.cli d hd
    · exact hc
  · obtain ⟨g1, g2, g3, g4, g5, g6, g7, g8, g9, g10, g11⟩ := h.req q hq'
    refine ⟨g1, g2, g3, g4, by rw [hlen]; exact g5, g6, g7, g8, g9, fun e1 e2 => ?_, g11⟩
    rw [cli_set hn _ _ g4]
    split
    · rename_i e
      exact hq q hq' e e1 e2
    · exact g10 e1 e2
theorem IsCli.keep2 {F : List Nat} {b : Nat} {c : CliP} (h : IsCli w F b c) (hk : Keep2 F w w') (hb : w'.heap[b]? = w.heap[b]?) : IsCli w' F b c := by
  obtain ⟨hF, p, e1, e2, e3⟩ := h
  refine ⟨hF, p, by rw [hb]; exact e1, e2, fun he hw => ?_⟩
  obtain ⟨g, m, vn, vq, vd, f1, f2, f3, f4⟩ := e3 he hw
  exact ⟨g, m, vn, vq, vd, f1, f2, hk.cells _ _ _ _ f2 (by decide) (by decide) f3, f4⟩
theorem IsRel.setCli (h : IsRel w r R U G vo) (hn : 1 ≤ n ∧ n ≤ R.clients.length) {c : CliP} (hc : c.Ok R) (hq : ∀ q ∈ R.reqs, q.client = n → q.own = false → q.lost = false → 512 ≤ c.msize ∧ c.ending = false) (hm : Mods [G.cb (n - 1)] w w') (hcl : IsCli w' G.F (G.cb (n - 1)) c) :
    IsRel w' r (R.setCli n c) U G vo := by
  obtain ⟨hb, p, e1, -⟩ := h.cli (n - 1) (R.cli n) (cli_at hn)
  have hk : Keep2 G.F w w' := Keep2.mods hm (fun k hk => by
    simp at hk
    subst hk
    exact ⟨_, _, _, e1, Or.inl rfl⟩)
  have hkc : KeepC 85 G.F w w' := ⟨hm.size, fun b cs t fr _ ht hb' => hm.heap hb' (fun e => by
    simp at e
    rw [e, e1] at hb'
    cases hb'
    exact ht rfl)⟩
  refine h.re (h.wf.setCli hn hc hq) hk ⟨rfl, rfl, rfl, by simp [RelP.setCli]⟩ rfl rfl (fun i d hi => ?_) (fun q hq => ((h.req q hq).keepT hkc (by decide) (by decide) (by decide) (by decide) (by decide) (by decide) (by decide)).sub (fun p hp => hp))
  by_cases e : i = n - 1
  · subst e
    have : (R.setCli n c).clients[n - 1]? = some c := by
      unfold RelP.setCli
      rw [List.getElem?_set_self (by omega)]
    rw [this] at hi
    cases hi
    exact hcl
  · have hi' : R.clients[i]? = some d := by
      rw [← hi]
      unfold RelP.setCli
      rw [List.getElem?_set_ne (by omega)]
    refine (h.cli i d hi').keep2 hk ?_
    have hil : i < R.clients.length := (List.getElem?_eq_some_iff.1 hi').1
    refine hm.block _ (h.lt _ (h.cli i d hi').1) (fun e' => e ?_)
    simp at e'
    exact h.cbi i (n - 1) hil (by omega) e'
theorem St.setCli {p : Option Addr} (h : St w0 F0 K r R U G L w) (hn : 1 ≤ n ∧ n ≤ R.clients.length) {c : CliP} (hc : c.Ok R) (hq : ∀ q ∈ R.reqs, q.client = n → q.own = false → q.lost = false → 512 ≤ c.msize ∧ c.ending = false) (hm : Mods [G.cb (n - 1)] w w')
    (hr : w'.heap[G.cb (n - 1)]? = some (.cells #[.int .u32 (c.msize : Int), .bool c.ending, .pointer p] 85 (0, 0))) (he : c.ending = false) : St w0 F0 K r (R.setCli n c) U G L w' := by
  obtain ⟨vo, h1, h2, h3, h4⟩ := h.ex
  have hb := (h1.cli (n - 1) (R.cli n) (cli_at hn)).1
  refine ⟨⟨vo, h1.setCli hn hc hq hm ⟨hb, p, hr, fun e => (by rw [he] at e; cases e), fun e => (by rw [he] at e; cases e)⟩, h2.modsX hm (fun k hk hk' => h3 _ hb (by simp at hk'; rw [← hk']; exact hk)), h3, fun k hk => ⟨Nat.lt_of_lt_of_le (h4 k hk).1 hm.size, (h4 k hk).2⟩⟩, h.mods.trans hm (fun k hk => ?_), h.sub⟩
  simp at hk
  rw [hk]
  exact h.sub _ hb
/-- More of the memory is the relay's. -/
def Gh.grow (G : Gh) (X : List Nat) : Gh := { G with F := X ++ G.F }
theorem IsRel.grow {X : List Nat} (h : IsRel w r R U G vo) (hX : ∀ k ∈ X, k < w.heap.size) : IsRel w r R U (G.grow X) vo := by
  have mo : G.More (G.grow X) R.made := ⟨fun _ h => List.mem_append.2 (Or.inr h), fun _ _ => rfl, fun _ _ => rfl⟩
  exact ⟨h.wf, ⟨mo.sub _ h.here.1, mo.sub _ h.here.2.1, mo.sub _ h.here.2.2.1, mo.sub _ h.here.2.2.2⟩, fun k hk => (List.mem_append.1 hk).elim (hX k) (h.lt k), h.cells, h.row, fun i c hi => (h.cli i c hi).more mo, h.cbi, h.links, fun l hl => ⟨mo.sub _ (h.link l hl).1, (h.link l hl).2⟩, h.lbi, h.under,
    fun q hq => (h.req q hq).more mo (h.wf.uses_le hq).1 (h.wf.uses_le hq).2 (h.wf.names q hq) (fun p hp => (h.wf.req p hp).2.1) (h.wf.req q hq).2.1 (fun p hp => Or.inl hp), h.rbi, h.apart⟩
theorem St.grow {X : List Nat} (h : St w0 F0 (X ++ K) r R U G L w) (hX : ∀ k ∈ X, w0.heap.size ≤ k) (hK : ∀ k ∈ K, k ∉ X) : St w0 F0 K r R U (G.grow X) L w := by
  obtain ⟨vo, h1, h2, h3, h4⟩ := h.ex
  refine ⟨⟨vo, h1.grow (fun k hk => (h4 k (by simp [hk])).1), h2, fun k hk hk' => ?_, fun k hk => ?_⟩, h.mods, fun k hk => ?_⟩
  · rcases List.mem_append.1 hk with hk | hk
    · exact (h4 k (by simp [hk])).2.2 hk'
    · exact h3 k hk hk'
  · have h5 := h4 k (by simp [hk])
    exact ⟨h5.1, fun e => (List.mem_append.1 e).elim (hK k hk) h5.2.1, h5.2.2⟩
  · exact (List.mem_append.1 hk).elim (fun hk => Or.inr (hX k hk)) (h.sub k)
end
end Go.Proofs.YtlgoeipgmjcboaaGreatDoor
