/- The relay in memory: its cells, clients, links and requests; what stays of it. -/
import Derived.Test.YtlgoeipgmjcboaaGreatDoorIs
import Derived.Test.YtlgoeipgmjcboaaGreatDoorIk
namespace Go.Proofs.YtlgoeipgmjcboaaGreatDoor
open Go.RowKit Me

/-- What is so of every relay. -/
structure RelP.Wf (R : RelP) : Prop where
  msize : 512 ≤ R.msize ∧ R.msize ≤ 65536
  fids : 1 ≤ R.fids ∧ R.fids ≤ 256
  tags : 1 ≤ R.tags ∧ R.tags ≤ 64
  many : 1 ≤ R.clients.length ∧ R.clients.length ≤ 16
  cli : ∀ c ∈ R.clients, (c.msize = 0 ∨ 512 ≤ c.msize) ∧ c.msize ≤ R.msize ∧ c.vsize < 4294967296 ∧ (c.waits = true → 512 ≤ c.vsize) ∧ c.ver.size ≤ 100000000
  link : ∀ l ∈ R.links, 0 < l.id ∧ l.id ≤ R.made ∧ 1 ≤ l.client ∧ l.client ≤ R.clients.length ∧ l.fid < 4294967295 ∧ l.num < R.fids
  links : R.links.Pairwise fun l k => l.id ≠ k.id ∧ l.num ≠ k.num ∧ ¬ (l.client = k.client ∧ l.fid = k.fid)
  req : ∀ q ∈ R.reqs, 0 < q.id ∧ q.id ≤ R.made ∧ q.num < R.tags ∧ 1 ≤ q.client ∧ q.client ≤ R.clients.length ∧ answerK q.kind ≠ none ∧ q.tag < 65536 ∧ (∀ i ∈ q.uses, ∃ l ∈ R.links, l.id = i) ∧ (q.fresh ≠ 0 → q.fresh ∈ q.uses) ∧
    (q.own = false → q.lost = false → 512 ≤ (R.cli q.client).msize ∧ (R.cli q.client).ending = false) ∧ q.uses.length ≤ 2
  reqs : R.reqs.Pairwise fun q p => q.id ≠ p.id ∧ q.num ≠ p.num ∧ ¬ (q.own = false ∧ p.own = false ∧ q.client = p.client ∧ q.tag = p.tag)
  names : ∀ q ∈ R.reqs, q.names ≤ R.made
/-- Where a relay's parts lie. -/
structure Gh where
  F : List Nat
  lb : Nat → Nat
  rb : Nat → Nat
  cb : Nat → Nat
  gc : Nat
  cc : Nat
  mb : Nat
  ub : Nat
/-- A client. -/
def IsCli (w : World) (F : List Nat) (b : Nat) (c : CliP) : Prop :=
  b ∈ F ∧ ∃ p, w.heap[b]? = some (.cells #[.int .u32 (c.msize : Int), .bool c.ending, .pointer p] 85 (0, 0)) ∧
    (c.ending = true → c.waits = false → p = none) ∧
    (c.ending = true → c.waits = true → ∃ g m vn vq vd, p = some ⟨g, 0, none⟩ ∧ g ∈ F ∧ w.heap[g]? = some (.cells (msgC m vn vq vd).toArray 47 (0, 0)) ∧ m.tag = 65535 ∧ m.version = c.ver ∧ m.msize = c.vsize)
def ptrs (G : Gh) (l : List Nat) : List Value := l.map fun i => .pointer (some ⟨G.lb i, 0, none⟩)
/-- A row of links that is only read. -/
def LRow (w : World) (G : Gh) (v : Value) (l : List Nat) : Prop :=
  ∃ A c, v = .slice A l.length c ∧ l.length ≤ c ∧ c ≤ maxLen ∧ (l = [] ∨ ∃ (g : Nat) (cur : Array Value), A = some ⟨g, 0, none⟩ ∧ g ∈ G.F ∧ w.heap[g]? = some (.cells cur 146 (0, 0)) ∧ ∀ (j i : Nat), l[j]? = some i → cur[j]? = some (Value.pointer (some ⟨G.lb i, 0, none⟩))) ∧ ∀ p, A = some p → p.spot = none
/-- What is done by a reply. -/
def IsThen (w : World) (r : Nat) (G : Gh) (R : RelP) (q : ReqP) (v : Value) : Prop :=
  (q.kind = 108 ∧ ∃ c1 c2, v = .func (.func 82) #[] #[.pointer (some ⟨c1, 0, none⟩), .pointer (some ⟨c2, 0, none⟩)] ∧ c1 ∈ G.F ∧ c2 ∈ G.F ∧ w.heap[c1]? = some (.cells #[.pointer (some ⟨r, 0, none⟩)] 24 (0, 0)) ∧
    w.heap[c2]? = some (.cells #[.pointer (some ⟨G.rb q.names, 0, none⟩)] 109 (0, 0)) ∧ G.rb q.names ∈ G.F ∧ (∃ cs t, w.heap[G.rb q.names]? = some (.cells cs 115 (0, 0)) ∧ cs[1]? = some (.int .u16 (t : Int)) ∧ t < 65536 ∧ ∀ p ∈ R.reqs, p.id = q.names → p.num = t) ∧
    ∀ p ∈ R.reqs, G.rb p.id = G.rb q.names → p.id = q.names) ∨
  (q.kind ≠ 108 ∧ ∃ c1 c2 c3 c4 vu, v = .func (.func 121) #[] #[.pointer (some ⟨c1, 0, none⟩), .pointer (some ⟨c2, 0, none⟩), .pointer (some ⟨c3, 0, none⟩), .pointer (some ⟨c4, 0, none⟩)] ∧ c1 ∈ G.F ∧ c2 ∈ G.F ∧ c3 ∈ G.F ∧ c4 ∈ G.F ∧
    w.heap[c1]? = some (.cells #[.int .u8 (q.kind : Int)] 36 (0, 0)) ∧ w.heap[c2]? = some (.cells #[vu] 112 (0, 0)) ∧ LRow w G vu q.uses ∧
    w.heap[c3]? = some (.cells #[.pointer (if q.fresh = 0 then none else some ⟨G.lb q.fresh, 0, none⟩)] 146 (0, 0)) ∧ w.heap[c4]? = some (.cells #[.int .i64 (q.many : Int)] 3 (0, 0)))
/-- A request. -/
def IsReq (w : World) (r : Nat) (G : Gh) (R : RelP) (q : ReqP) : Prop :=
  G.rb q.id ∈ G.F ∧ ∃ cs vu vt, w.heap[G.rb q.id]? = some (.cells cs 115 (0, 0)) ∧ cs.size = 43 ∧ cs[0]? = some (.int .u8 (q.kind : Int)) ∧ cs[1]? = some (.int .u16 (q.num : Int)) ∧ cs[36]? = some (.int .i64 (q.client : Int)) ∧
    cs[37]? = some (.bool q.own) ∧ cs[38]? = some (.int .u16 (q.tag : Int)) ∧ cs[39]? = some (.bool q.lost) ∧ cs[40]? = some vu ∧ cs[42]? = some vt ∧ LRow w G vu q.uses ∧ IsThen w r G R q vt
/-- The relay R in block r, over links that are used U times; what goes out lies at vo. -/
structure IsRel (w : World) (r : Nat) (R : RelP) (U : Nat → Nat) (G : Gh) (vo : Value) : Prop where
  wf : R.Wf
  here : r ∈ G.F ∧ G.gc ∈ G.F ∧ G.mb ∈ G.F ∧ G.ub ∈ G.F
  lt : ∀ k ∈ G.F, k < w.heap.size
  cells : w.heap[r]? = some (.cells #[.int .u32 (R.msize : Int), .int .i64 (R.fids : Int), .int .i64 (R.tags : Int), .slice (some ⟨G.gc, 0, none⟩) R.clients.length G.cc, .map (some G.mb), .map (some G.ub), vo] 81 (0, 0))
  row : R.clients.length ≤ G.cc ∧ G.cc ≤ maxLen ∧ ∃ cur, w.heap[G.gc]? = some (.cells cur 82 (0, 0)) ∧ ∀ i, i < R.clients.length → cur[i]? = some (.pointer (some ⟨G.cb i, 0, none⟩))
  cli : ∀ i c, R.clients[i]? = some c → IsCli w G.F (G.cb i) c
  cbi : ∀ i j, i < R.clients.length → j < R.clients.length → G.cb i = G.cb j → i = j
  links : PMap KP w G.mb (R.links.map fun l => (((l.client : Int), l.fid), G.lb l.id))
  link : ∀ l ∈ R.links, G.lb l.id ∈ G.F ∧ w.heap[G.lb l.id]? = some (.cells #[.int .u32 (l.num : Int), .bool l.real, .int .i64 (U l.id : Int)] 148 (0, 0))
  lbi : ∀ l ∈ R.links, ∀ k ∈ R.links, G.lb l.id = G.lb k.id → l.id = k.id
  under : PMap KU w G.ub (R.reqs.map fun q => (q.num, G.rb q.id))
  req : ∀ q ∈ R.reqs, IsReq w r G R q
  rbi : ∀ q ∈ R.reqs, ∀ p ∈ R.reqs, G.rb q.id = G.rb p.id → q.id = p.id
  apart : G.mb ≠ G.ub
theorem IsRel.mods {w w' : World} {r : Nat} {R : RelP} {U : Nat → Nat} {G : Gh} {vo : Value} {X : List Nat} (h : IsRel w r R U G vo) (hm : Mods X w w') (hX : ∀ k ∈ G.F, k ∉ X) : IsRel w' r R U G vo := by
  have hh : ∀ {b o}, b ∈ G.F → w.heap[b]? = some o → w'.heap[b]? = some o := fun hb ho => hm.heap ho (hX _ hb)
  have hL : ∀ {v l}, LRow w G v l → LRow w' G v l := fun ⟨A, c, e, h1, h2, h3, h4⟩ => ⟨A, c, e, h1, h2, h3.imp id (fun ⟨g, cur, e1, e2, e3, e4⟩ => ⟨g, cur, e1, e2, hh e2 e3, e4⟩), h4⟩
  refine ⟨h.wf, h.here, fun k hk => Nat.lt_of_lt_of_le (h.lt k hk) hm.size, hh h.here.1 h.cells, ⟨h.row.1, h.row.2.1, ?_⟩, fun i c hc => ?_, h.cbi, h.links.mods hm (hX _ h.here.2.2.1), fun l hl => ⟨(h.link l hl).1, hh (h.link l hl).1 (h.link l hl).2⟩, h.lbi, h.under.mods hm (hX _ h.here.2.2.2), fun q hq => ?_, h.rbi, h.apart⟩
  · obtain ⟨cur, h1, h2⟩ := h.row.2.2
    exact ⟨cur, hh h.here.2.1 h1, h2⟩
  · obtain ⟨hb, p, h1, h2, h3⟩ := h.cli i c hc
    refine ⟨hb, p, hh hb h1, h2, fun he hw => ?_⟩
    obtain ⟨g, m, vn, vq, vd, e1, e2, e3, e4⟩ := h3 he hw
    exact ⟨g, m, vn, vq, vd, e1, e2, hh e2 e3, e4⟩
  · obtain ⟨hb, cs, vu, vt, h1, h2, h3, h4, h5, h6, h7, h8, h9, h10, h11, h12⟩ := h.req q hq
    refine ⟨hb, cs, vu, vt, hh hb h1, h2, h3, h4, h5, h6, h7, h8, h9, h10, hL h11, ?_⟩
    rcases h12 with ⟨k, c1, c2, e, f1, f2, g1, g2, f3, ⟨cs', t, g3, g4⟩, g5⟩ | ⟨k, c1, c2, c3, c4, vu', e, f1, f2, f3, f4, g1, g2, g3, g4, g5⟩
    · exact Or.inl ⟨k, c1, c2, e, f1, f2, hh f1 g1, hh f2 g2, f3, ⟨cs', t, hh f3 g3, g4⟩, g5⟩
    · exact Or.inr ⟨k, c1, c2, c3, c4, vu', e, f1, f2, f3, f4, hh f1 g1, hh f2 g2, hL g3, hh f3 g4, hh f4 g5⟩
theorem IsRel.still {w w' : World} {r : Nat} {R : RelP} {U : Nat → Nat} {G : Gh} {vo : Value} (h : IsRel w r R U G vo) (hm : Mods [] w w') : IsRel w' r R U G vo := h.mods hm (by simp)
section
variable {w : World} {r : Nat} {R : RelP} {U : Nat → Nat} {G : Gh} {vo : Value}
theorem IsRel.cell (h : IsRel w r R U G vo) (j : Nat) : w.cell? ⟨r, j, none⟩ = (#[.int .u32 (R.msize : Int), .int .i64 (R.fids : Int), .int .i64 (R.tags : Int), .slice (some ⟨G.gc, 0, none⟩) R.clients.length G.cc, .map (some G.mb), .map (some G.ub), vo] : Array Value)[j]? := by
  rw [cell_of_row _ _ _ _ _ _ h.cells]
theorem IsRel.frozen (h : IsRel w r R U G vo) (j : Nat) : w.frozen? ⟨r, j, none⟩ = false := frozen_of_row _ _ _ _ _ h.cells
theorem zero109 (w : World) : (zeroValue 109).run Tryz.prog w = .ok (.pointer none) w := by kernel_rfl
theorem zero146 (w : World) : (zeroValue 146).run Tryz.prog w = .ok (.pointer none) w := by kernel_rfl
/-- Waiting. -/
theorem waiting_any (h : IsRel w r R U G vo) : Calls Tryz.prog 10 #[.pointer (some ⟨r, 0, none⟩)] w fun e w' => e = .returned (.int .i64 (R.reqs.length : Int)) ∧ w' = w := by
  have c5 : w.cell? ⟨r, 5, none⟩ = some (.map (some G.ub)) := h.cell 5
  have hl := h.under.len Tryz.underlying78
  rw [List.length_map] at hl
  clear h
  go_enter Tryz.func10, Tryz.ntmps10
  go_wp2_with fail
  go_ret
  exact ⟨rfl, rfl⟩
/-- took: what was sent on since it was asked last. -/
theorem took_any (h : IsRel w r R U G vo) (hv : ∃ A n c, vo = .slice A n c) : Calls Tryz.prog 31 #[.pointer (some ⟨r, 0, none⟩)] w fun e w' => e = .returned vo ∧ w' = w.setCell ⟨r, 6, none⟩ (.slice none 0 0) := by
  have c6 : w.cell? ⟨r, 6, none⟩ = some vo := h.cell 6
  have f6 := h.frozen 6
  obtain ⟨A, n, c, rfl⟩ := hv
  clear h
  go_enter Tryz.func31, Tryz.ntmps31
  go_wp2_with fail
  go_ret
  exact ⟨rfl, rfl⟩
end
end Go.Proofs.YtlgoeipgmjcboaaGreatDoor
