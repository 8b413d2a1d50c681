/- A script in memory: a slice of steps (vergerlaw01.Op), six cells each. | Readers side by side in memory: a stack of them. | Readers side by side, as one piece of memory: each in a block of its own; what they read may be shared. One call of one of them, with all else about. -/
import Derived.Test.YtnpokdbpmnkbjaaGreatDoorBo
import Derived.Deep.MidRow
import Derived.Test.YtnpokdbpmnkbjaaGreatDoorPc
namespace Go.Proofs.YtnpokdbpmnkbjaaGreatDoor
open Go.RowKit Me

def opC (o : OpP) (vb : Value) : List Value := [.int .i64 o.who, .int .i64 o.kind, .int .u64 (o.n : Int), .int .i64 o.k, vb, .string o.s]
theorem opC_len (p : OpP × Value) : (opC p.1 p.2).length = 6 := rfl
/-- What can be read of a step's bytes. -/
def OpIn (w : World) (p : OpP × Value) : Prop := p.1.Fits ∧ Rd w p.2 (p.1.b.map byteV)
theorem OpIn.mods {w w' : World} {p : OpP × Value} (h : OpIn w p) (hm : Mods [] w w') : OpIn w' p := ⟨h.1, h.2.mods hm (by simp)⟩
/-- A slice of steps. -/
def Ops (w : World) (v : Value) (L : List (OpP × Value)) : Prop :=
  ∃ A c, v = .slice A L.length c ∧ L.length ≤ c ∧ c ≤ maxLen ∧ ∀ i p, L[i]? = some p → ∃ g off, A = some ⟨g, off, none⟩ ∧ w.rangeAt g (off + i * 6) (opC p.1 p.2)
theorem rangeAt_mods {w w' : World} {F : List Nat} {g o : Nat} {cs : List Value} (h : w.rangeAt g o cs) (hm : Mods F w w') (hn : g ∉ F) : w'.rangeAt g o cs := by
  intro j v hj
  have hc := h j v hj
  rw [hm.cell (p := ⟨g, o + j, none⟩) (World.block_lt_of_cell? w _ hc) hn]
  exact hc
theorem Ops.mods {w w' : World} {v : Value} {L : List (OpP × Value)} (h : Ops w v L) (hm : Mods [] w w') : Ops w' v L := by
  obtain ⟨A, c, e, h1, h2, h3⟩ := h
  refine ⟨A, c, e, h1, h2, fun i p hp => ?_⟩
  obtain ⟨g, off, e1, h4⟩ := h3 i p hp
  exact ⟨g, off, e1, rangeAt_mods h4 hm (by simp)⟩
theorem Ops.at {w : World} {A : Option Addr} {n c : Nat} {L : List (OpP × Value)} (h : Ops w (.slice A n c) L) (i : Nat) (p : OpP × Value) (hp : L[i]? = some p) :
    ∃ g off, A = some ⟨g, off, none⟩ ∧ w.rangeAt g (off + i * 6) (opC p.1 p.2) := by
  obtain ⟨A', c', e, _, _, h3⟩ := h
  injection e with e0 _ _
  subst e0
  exact h3 i p hp
def opsC (L : List (OpP × Value)) : List Value := L.flatMap fun p => opC p.1 p.2
theorem opsC_at : ∀ (L : List (OpP × Value)) (i j : Nat) (p : OpP × Value), L[i]? = some p → j < 6 → (opsC L)[i * 6 + j]? = (opC p.1 p.2)[j]?
  | [], i, j, p, h, _ => by simp at h
  | q :: L, 0, j, p, h, hj => by
    simp at h
    subst h
    show (opC q.1 q.2 ++ opsC L)[0 * 6 + j]? = _
    rw [List.getElem?_append_left (by rw [opC_len]; omega)]
    congr 1
    omega
  | q :: L, i + 1, j, p, h, hj => by
    show (opC q.1 q.2 ++ opsC L)[(i + 1) * 6 + j]? = _
    rw [List.getElem?_append_right (by rw [opC_len]; omega), opC_len, show (i + 1) * 6 + j - 6 = i * 6 + j by omega]
    exact opsC_at L i j p (by simpa using h) hj
/-- A row of steps that a call has made. -/
theorem Ops.of_own {w : World} {base : Nat} {e : TypeId} {v : Value} {n : Nat} {L : List (OpP × Value)} (h : w.ownsRow base e 6 v n (opsC L)) (hn : n = L.length) : Ops w v L := by
  rcases ownsRow_form h with ⟨rfl, h1, h2⟩ | ⟨g, cap, rfl, h1, h2, _⟩
  · subst hn
    have hl : L = [] := List.eq_nil_of_length_eq_zero h1
    subst hl
    exact ⟨none, 0, rfl, Nat.le_refl _, by unfold maxLen; omega, fun i p hp => by simp at hp⟩
  · subst hn
    refine ⟨_, cap, rfl, h1, h2, fun i p hp => ⟨g, 0, rfl, fun j u hu => ?_⟩⟩
    have hj : j < 6 := by have := (List.getElem?_eq_some_iff.1 hu).1; rwa [opC_len] at this
    have := h.cells (g := g) rfl (i * 6 + j) u (by rw [opsC_at L i j p hp hj]; exact hu)
    rw [Addr.add_lit] at this
    simpa [Nat.add_assoc] using this
end Go.Proofs.YtnpokdbpmnkbjaaGreatDoor
namespace Go.Proofs.YtnpokdbpmnkbjaaGreatDoor
open Go.RowKit Me

structure RB where
  a : Nat
  R : RSt
  v : Value
def RB.p (x : RB) : Value := .pointer (some ⟨x.a, 0, none⟩)
/-- Readers, each in a block of its own, made since the world had lo blocks; the rows that they read lie below B. -/
structure Stand (lo B : Nat) (w : World) (L : List RB) : Prop where
  is : ∀ x ∈ L, IsR 140 w x.a x.R x.v
  lo : ∀ x ∈ L, lo ≤ x.a
  lt : ∀ x ∈ L, ∀ k, x.v.ownBlock = some k → k < B
  ne : ∀ x ∈ L, ∀ y ∈ L, x.v.ownBlock ≠ some y.a
  nd : L.Pairwise fun x y => x.a ≠ y.a
section
variable {lo B : Nat} {w w' : World} {L : List RB} {x : RB} {F : List Nat}
theorem Stand.mods (h : Stand lo B w L) (hm : Mods F w w') (h1 : ∀ x ∈ L, x.a ∉ F) (h2 : ∀ k ∈ F, B ≤ k) : Stand lo B w' L :=
  ⟨fun x hx => (h.is x hx).mods hm (h1 x hx) (fun k hk hf => by have := h.lt x hx k hk; have := h2 k hf; omega), h.lo, h.lt, h.ne, h.nd⟩
theorem Stand.still (h : Stand lo B w L) (hm : Mods [] w w') : Stand lo B w' L := h.mods hm (by simp) (by simp)
theorem Stand.head (h : Stand lo B w (x :: L)) : IsR 140 w x.a x.R x.v := h.is x (by simp)
theorem Stand.next {a : Nat} {S S' : RSt} {v : Value} (h : Stand lo B w (⟨a, S, v⟩ :: L)) (hp : RPost 140 w a v S' w') : Stand lo B w' (⟨a, S', v⟩ :: L) := by
  have hne := List.pairwise_cons.1 h.nd
  have key : ∀ z ∈ (⟨a, S', v⟩ :: L : List RB), ∃ z' ∈ (⟨a, S, v⟩ :: L : List RB), z'.a = z.a ∧ z'.v = z.v := by
    intro z hz
    rcases List.mem_cons.1 hz with rfl | hz
    · exact ⟨_, List.mem_cons_self, rfl, rfl⟩
    · exact ⟨z, List.mem_cons_of_mem _ hz, rfl, rfl⟩
  refine ⟨fun x hx => ?_, fun x hx => ?_, fun x hx => ?_, fun x hx y hy => ?_, List.pairwise_cons.2 ⟨hne.1, hne.2⟩⟩
  · rcases List.mem_cons.1 hx with rfl | hx
    · exact hp.1
    · refine (h.is x (List.mem_cons_of_mem _ hx)).mods hp.2 ?_ ?_
      · have := hne.1 x hx
        simp
        exact fun e => this e.symm
      · intro k hk hm
        have hka : k = a := by simpa using hm
        rw [hka] at hk
        exact h.ne x (List.mem_cons_of_mem _ hx) ⟨a, S, v⟩ (List.mem_cons_self) hk
  · obtain ⟨x', hx', e1, _⟩ := key x hx
    rw [← e1]
    exact h.lo x' hx'
  · obtain ⟨x', hx', _, e2⟩ := key x hx
    rw [← e2]
    exact h.lt x' hx'
  · obtain ⟨x', hx', e1, e2⟩ := key x hx
    obtain ⟨y', hy', e3, e4⟩ := key y hy
    rw [← e2, ← e3]
    exact h.ne x' hx' y' hy'
theorem Stand.lt_size (h : Stand lo B w L) (hx : x ∈ L) : x.a < w.heap.size := by
  have := (h.is x hx).cells
  exact (Array.getElem?_eq_some_iff.1 this).1
/-- A new reader that reads what the first one reads. -/
theorem Stand.push {p : Nat} {S : RSt} {vp : Value} (h : Stand lo B w (x :: L)) (hp : IsR 140 w p S vp) (hlo : lo ≤ p) (hn : ∀ y ∈ x :: L, y.a ≠ p) (hB : B ≤ p) (hv : ∀ k, vp.ownBlock = some k → x.v.ownBlock = some k) : Stand lo B w (⟨p, S, vp⟩ :: x :: L) := by
  refine ⟨fun y hy => ?_, fun y hy => ?_, fun y hy => ?_, fun y hy z hz => ?_, List.pairwise_cons.2 ⟨fun y hy => (hn y hy).symm, h.nd⟩⟩
  · rcases List.mem_cons.1 hy with rfl | hy
    · exact hp
    · exact h.is y hy
  · rcases List.mem_cons.1 hy with rfl | hy
    · exact hlo
    · exact h.lo y hy
  · rcases List.mem_cons.1 hy with rfl | hy
    · exact fun k hk => h.lt x (by simp) k (hv k hk)
    · exact h.lt y hy
  · rcases List.mem_cons.1 hy with rfl | hy <;> rcases List.mem_cons.1 hz with rfl | hz
    · exact hp.na
    · exact fun e => h.ne x (by simp) z hz (hv _ e)
    · intro e
      have : p < B := h.lt y hy _ e
      omega
    · exact h.ne y hy z hz
theorem Stand.part {a : Nat} {S : RSt} {v : Value} {r : RSt × RSt} {e : Ending} (h : Stand lo B w (⟨a, S, v⟩ :: L)) (hlo : lo ≤ w.heap.size) (hB : B ≤ w.heap.size) (hp : PartPost 140 w a v r e w') :
    ∃ p vp, e = .returned (.pointer (some ⟨p, 0, none⟩)) ∧ w.heap.size ≤ p ∧ Mods [a] w w' ∧ Stand lo B w' (⟨p, r.1, vp⟩ :: ⟨a, r.2, v⟩ :: L) := by
  obtain ⟨p, vp, e1, h1, h2, h3, h4⟩ := hp
  refine ⟨p, vp, e1, h2, h4.2, (h.next h4).push h1 (by omega) (fun y hy => ?_) (by omega) h3⟩
  have hlt : y.a < w.heap.size := by
    rcases List.mem_cons.1 hy with rfl | hy
    · exact h.lt_size (x := ⟨a, S, v⟩) (by simp)
    · exact h.lt_size (x := y) (List.mem_cons_of_mem _ hy)
  omega
theorem Stand.one {a : Nat} {S : RSt} {v : Value} (h : IsR 140 w a S v) (hlo : lo ≤ a) (hB : ∀ k, v.ownBlock = some k → k < B) : Stand lo B w [⟨a, S, v⟩] := by
  refine ⟨fun x hx => ?_, fun x hx => ?_, fun x hx => ?_, fun x hx y hy => ?_, List.pairwise_singleton _ _⟩
  all_goals simp at *
  all_goals subst_vars
  · exact h
  · exact hlo
  · exact hB
  · exact h.na
end
end Go.Proofs.YtnpokdbpmnkbjaaGreatDoor
namespace Go.Proofs.YtnpokdbpmnkbjaaGreatDoor
open Go.RowKit Me

theorem map_set_same {α β : Type} {f : α → β} {L : List α} {k : Nat} {x y : α} (h : L[k]? = some x) (hf : f y = f x) : (L.set k y).map f = L.map f := by
  rw [List.map_set, hf]
  refine List.ext_getElem? fun i => ?_
  rw [List.getElem?_set]
  split
  · rename_i hi
    subst hi
    obtain ⟨hk, hx⟩ := List.getElem?_eq_some_iff.1 h
    rw [if_pos (by simpa using hk), List.getElem?_map, h]
    rfl
  · rfl
def ownL (L : List RB) : List Nat := (L.map RB.v).flatMap fun v => v.ownBlock.toList
def RsP (T : TypeId) (L : List RB) : Pc where
  A := fun w F => (∀ x ∈ L, IsR T w x.a x.R x.v) ∧ (∀ v ∈ L.map RB.v, ∀ k, v.ownBlock = some k → k < w.heap.size) ∧ (∀ v ∈ L.map RB.v, ∀ a ∈ L.map RB.a, v.ownBlock ≠ some a) ∧ (L.map RB.a).Nodup ∧ F = L.map RB.a ++ ownL L
  mods := by
    rintro w w' F G ⟨h1, h2, h3, h4, rfl⟩ hm hn
    refine ⟨fun x hx => (h1 x hx).mods hm (hn _ (List.mem_append_left _ (List.mem_map_of_mem hx))) (fun k hk => hn k (List.mem_append_right _ (List.mem_flatMap.2 ⟨x.v, List.mem_map_of_mem hx, by simp [hk]⟩))), fun v hv k hk => Nat.lt_of_lt_of_le (h2 v hv k hk) hm.size, h3, h4, rfl⟩
  lt := by
    rintro w F ⟨h1, h2, h3, h4, rfl⟩ k hk
    rcases List.mem_append.1 hk with hk | hk
    · obtain ⟨x, hx, rfl⟩ := List.mem_map.1 hk
      exact (Array.getElem?_eq_some_iff.1 (h1 x hx).cells).1
    · obtain ⟨v, hv, hk⟩ := List.mem_flatMap.1 hk
      exact h2 v hv k (by simpa using hk)
section
variable {T : TypeId} {w0 w w' : World} {L : List RB} {F : List Nat} {k : Nat} {x : RB} {S' : RSt}
/-- One of them has gone on. -/
theorem RsP.turn (h : (RsP T L).A w F) (hx : L[k]? = some x) (hp : RPost T w x.a x.v S' w') : (RsP T (L.set k ⟨x.a, S', x.v⟩)).A w' F ∧ Mods F w w' := by
  obtain ⟨h1, h2, h3, h4, rfl⟩ := h
  have ea : (L.set k ⟨x.a, S', x.v⟩).map RB.a = L.map RB.a := map_set_same hx rfl
  have ev : (L.set k ⟨x.a, S', x.v⟩).map RB.v = L.map RB.v := map_set_same hx rfl
  have hmx : x ∈ L := List.mem_of_getElem? hx
  refine ⟨⟨fun y hy => ?_, ?_, ?_, ?_, ?_⟩, hp.2.mono (by simp only [List.mem_singleton]; rintro _ rfl; exact Or.inl (List.mem_append_left _ (List.mem_map_of_mem hmx)))⟩
  · obtain ⟨i, hi⟩ := List.mem_iff_getElem?.1 hy
    rw [List.getElem?_set] at hi
    split at hi
    · split at hi
      · simp at hi
        subst hi
        exact hp.1
      · simp at hi
    · rename_i hne
      have hmy : y ∈ L := List.mem_of_getElem? hi
      refine (h1 y hmy).mods hp.2 ?_ ?_
      · simp only [List.mem_singleton]
        intro e
        refine hne ?_
        obtain ⟨hk1, hk2⟩ := List.getElem?_eq_some_iff.1 hx
        obtain ⟨hi1, hi2⟩ := List.getElem?_eq_some_iff.1 hi
        have hpw := List.pairwise_iff_getElem.1 h4
        have hk3 : k < (L.map RB.a).length := by simpa using hk1
        have hi3 : i < (L.map RB.a).length := by simpa using hi1
        rcases Nat.lt_trichotomy k i with hlt | heq | hgt
        · exact absurd (by rw [List.getElem_map, List.getElem_map, hk2, hi2, e]) (hpw k i hk3 hi3 hlt)
        · exact heq
        · exact absurd (by rw [List.getElem_map, List.getElem_map, hk2, hi2, e]) (hpw i k hi3 hk3 hgt)
      · intro q hq
        simp only [List.mem_singleton]
        rintro rfl
        exact h3 y.v (List.mem_map_of_mem hmy) x.a (List.mem_map_of_mem hmx) hq
  · rw [ev]
    exact fun v hv q hq => Nat.lt_of_lt_of_le (h2 v hv q hq) hp.2.size
  · rw [ev, ea]
    exact h3
  · rw [ea]
    exact h4
  · unfold ownL
    rw [ev, ea]
/-- One more. -/
theorem RsP.push {p : Nat} {S : RSt} {vp : Value} (h : Post (RsP T L) w0 F w) (hp : IsR T w p S vp) (hn : p ∉ L.map RB.a) (hv : ∀ v ∈ L.map RB.v, v.ownBlock ≠ some p) (hlt : ∀ q, vp.ownBlock = some q → q < w.heap.size ∧ q ∉ L.map RB.a ∧ (q ∈ F ∨ w0.heap.size ≤ q)) (hF : p ∈ F ∨ w0.heap.size ≤ p) :
    Post (RsP T (L ++ [⟨p, S, vp⟩])) w0 F w := by
  obtain ⟨F1, ⟨h1, h2, h3, h4, rfl⟩, h5, h6⟩ := h
  refine ⟨_, ⟨fun y hy => ?_, fun v hv' q hq => ?_, fun v hv' a ha => ?_, ?_, rfl⟩, h5, fun q hq => ?_⟩
  · simp only [List.mem_append, List.mem_singleton] at hy
    rcases hy with hy | rfl
    · exact h1 y hy
    · exact hp
  · simp only [List.map_append, List.map_cons, List.map_nil, List.mem_append, List.mem_singleton] at hv'
    rcases hv' with hv' | rfl
    · exact h2 v hv' q hq
    · exact (hlt q hq).1
  · simp only [List.map_append, List.map_cons, List.map_nil, List.mem_append, List.mem_singleton] at hv' ha
    rcases hv' with hv' | rfl <;> rcases ha with ha | rfl
    · exact h3 v hv' a ha
    · exact hv v hv'
    · exact fun e => (hlt a e).2.1 ha
    · exact hp.na
  · rw [List.map_append, List.nodup_append]
    refine ⟨h4, by simp, fun a ha b hb => ?_⟩
    simp only [List.map_cons, List.map_nil, List.mem_singleton] at hb
    rw [hb]
    exact fun e => hn (e ▸ ha)
  · unfold ownL at hq
    simp only [List.map_append, List.map_cons, List.map_nil, List.flatMap_append, List.flatMap_cons, List.flatMap_nil, List.mem_append, List.mem_singleton, List.append_nil] at hq
    rcases hq with (hq | rfl) | (hq | hq)
    · exact h6 q (List.mem_append_left _ hq)
    · exact hF
    · exact h6 q (List.mem_append_right _ hq)
    · exact (hlt q (by simpa using hq)).2.2
theorem RsP.nil (T : TypeId) (w : World) : (RsP T []).A w [] := ⟨by simp, by simp, by simp, by simp, rfl⟩
/-- What Part leaves, whether the new one reads the old row or one of its own. -/
def PartP (T : TypeId) (w : World) (a : Nat) (vb : Value) (r : RSt × RSt) (e : Ending) (w' : World) : Prop :=
  ∃ p vp, e = .returned (.pointer (some ⟨p, 0, none⟩)) ∧ IsR T w' p r.1 vp ∧ w.heap.size ≤ p ∧ (∀ k, vp.ownBlock = some k → vb.ownBlock = some k ∨ (w.heap.size ≤ k ∧ k < w'.heap.size)) ∧ RPost T w a vb r.2 w'
theorem RsP.part {r : RSt × RSt} {e : Ending} (h : (RsP T L).A w F) (hx : L[k]? = some x) (hp : PartP T w x.a x.v r e w') :
    ∃ y : Nat × Value, e = .returned (.pointer (some ⟨y.1, 0, none⟩)) ∧ Post (RsP T (L.set k ⟨x.a, r.2, x.v⟩ ++ [⟨y.1, r.1, y.2⟩])) w F w' := by
  obtain ⟨p, vp, e1, g1, g2, g3, g4⟩ := hp
  obtain ⟨t1, t2⟩ := RsP.turn h hx g4
  have ea : (L.set k ⟨x.a, r.2, x.v⟩).map RB.a = L.map RB.a := map_set_same hx rfl
  have ev : (L.set k ⟨x.a, r.2, x.v⟩).map RB.v = L.map RB.v := map_set_same hx rfl
  have hmx : x ∈ L := List.mem_of_getElem? hx
  obtain ⟨h1, h2, h3, h4, hF⟩ := id h
  have hlt : ∀ a ∈ L.map RB.a, a < w.heap.size := fun a ha => by
    obtain ⟨y, hy, rfl⟩ := List.mem_map.1 ha
    exact (Array.getElem?_eq_some_iff.1 (h1 y hy).cells).1
  refine ⟨(p, vp), e1, RsP.push ⟨F, t1, t2, fun _ hk => Or.inl hk⟩ g1 (fun hm => ?_) (fun v hv e => ?_) (fun q hq => ?_) (Or.inr g2)⟩
  · rw [ea] at hm
    have := hlt p hm
    omega
  · rw [ev] at hv
    have := h2 v hv p e
    omega
  · rw [ea]
    rcases g3 q hq with g | g
    · refine ⟨Nat.lt_of_lt_of_le (h2 x.v (List.mem_map_of_mem hmx) q g) g4.2.size, fun hm => h3 x.v (List.mem_map_of_mem hmx) q hm g, Or.inl ?_⟩
      rw [hF]
      exact List.mem_append_right _ (List.mem_flatMap.2 ⟨x.v, List.mem_map_of_mem hmx, by simp [g]⟩)
    · refine ⟨g.2, fun hm => ?_, Or.inr g.1⟩
      have := hlt q hm
      omega
/-- A new one. -/
theorem RsP.new {a : Nat} {vb : Value} (h : Post (RsP T L) w0 F w) (hm : Mods [] w w') (hi : IsR T w' a S' vb) (hk : ∀ q, vb.ownBlock = some q → w.heap.size ≤ q ∧ q < w'.heap.size) (ha : w.heap.size ≤ a) : Post (RsP T (L ++ [⟨a, S', vb⟩])) w0 F w' := by
  have h' := h.still hm
  have hs := h.mods.size
  obtain ⟨F1, ⟨h1, h2, h3, h4, hF⟩, h5, h6⟩ := h
  have hlt : ∀ a ∈ L.map RB.a, a < w.heap.size := fun a ha => by
    obtain ⟨y, hy, rfl⟩ := List.mem_map.1 ha
    exact (Array.getElem?_eq_some_iff.1 (h1 y hy).cells).1
  refine RsP.push h' hi (fun hm => ?_) (fun v hv e => ?_) (fun q hq => ⟨(hk q hq).2, fun hm => ?_, Or.inr (Nat.le_trans hs (hk q hq).1)⟩) (Or.inr (Nat.le_trans hs ha))
  · have := hlt a hm
    omega
  · have := h2 v hv a e
    omega
  · have := hlt q hm
    have := (hk q hq).1
    omega
end

section
variable {T : TypeId} {w0 w : World} {L : List RB} {F : List Nat} {k : Nat} {x : RB} {S' : RSt} {K K' : Pc} {f : FuncId} {args : Array Value}
theorem RsP.is (h : Post ((RsP T L).star K) w0 F w) (hx : L[k]? = some x) : IsR T w x.a x.R x.v := by
  obtain ⟨F1, hF⟩ := h.front
  exact hF.1 x (List.mem_of_getElem? hx)
theorem RsP.call {val : Value} (h : Post ((RsP T L).star K) w0 F w) (hx : L[k]? = some x) (hc : IsR T w x.a x.R x.v → Calls Tryz.prog f args w fun e w' => e = .returned val ∧ RPost T w x.a x.v S' w') :
    Calls Tryz.prog f args w fun e w' => e = .returned val ∧ Post ((RsP T (L.set k ⟨x.a, S', x.v⟩)).star K) w0 F w' :=
  Post.call h fun F1 hF => (hc (hF.1 x (List.mem_of_getElem? hx))).mono fun _ _ hh => ⟨hh.1, by
    obtain ⟨t1, t2⟩ := RsP.turn hF hx hh.2
    exact ⟨F1, t1, t2, fun _ hk => Or.inl hk⟩⟩
/-- Bytes that come out: a row of one's own. -/
def RawP (T : TypeId) (w : World) (a : Nat) (vb : Value) (r : List UInt8 × RSt) (e : Ending) (w' : World) : Prop :=
  ∃ v, e = .returned v ∧ w'.ownsRow w.heap.size 5 1 v r.1.length (r.1.map byteV) ∧ RPost T w a vb r.2 w'
theorem RsP.raw {r : List UInt8 × RSt} (h : Post ((RsP T L).star K) w0 F w) (hx : L[k]? = some x) (hc : IsR T w x.a x.R x.v → Calls Tryz.prog f args w (RawP T w x.a x.v r)) :
    Calls Tryz.prog f args w fun e w' => ∃ v, e = .returned v ∧ Post ((rowOf v r.1).star ((RsP T (L.set k ⟨x.a, r.2, x.v⟩)).star K)) w0 F w' := by
  refine (Post.callx (val := id) (q := fun v => (rowOf v r.1).star (RsP T (L.set k ⟨x.a, r.2, x.v⟩))) h fun F1 hF => (hc (hF.1 x (List.mem_of_getElem? hx))).mono fun _ _ ⟨v, he, ho, hp⟩ => ?_).mono fun _ _ ⟨v, he, hp⟩ => ⟨v, he, hp.ent (Pc.Ent.assoc _ _ _)⟩
  obtain ⟨t1, t2⟩ := RsP.turn hF hx hp
  refine ⟨v, he, v.ownBlock.toList ++ F1, ⟨_, F1, ⟨ownsRow_base ho (Nat.zero_le _), rfl⟩, t1, fun q hq hq' => ?_, rfl⟩, t2, fun q hq => ?_⟩
  · have h1 := (ho.lt q (by simpa using hq)).1
    have h2 := (RsP T L).lt hF q hq'
    omega
  · rcases List.mem_append.1 hq with hq | hq
    · exact Or.inr (ho.lt q (by simpa using hq)).1
    · exact Or.inl hq
end
/-- A reader of each kind, of like state. -/
structure RQ where
  a : Nat
  va : Value
  c : Nat
  vc : Value
  S : RSt
def RQ.w (x : RQ) : RB := ⟨x.a, x.S, x.va⟩
def RQ.d (x : RQ) : RB := ⟨x.c, x.S, x.vc⟩
def RQ.p (x : RQ) : Value := .pointer (some ⟨x.a, 0, none⟩)
def RQ.q (x : RQ) : Value := .pointer (some ⟨x.c, 0, none⟩)
def RQ.at (x : RQ) (S : RSt) : RQ := ⟨x.a, x.va, x.c, x.vc, S⟩
end Go.Proofs.YtnpokdbpmnkbjaaGreatDoor
