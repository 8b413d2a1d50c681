/- Maps of keys to pointers, as lists of what they hold: asked, written, struck out, gone through in whatever order. Over any program. | The keys of the relay's two maps: tags; a client's fids. -/
import Derived.Test.YtlgoeipgmjcboaaGreatDoorPut
import Derived.Maps.Own
import Derived.Maps.OwnOps
import Derived.Maps.OwnSet
import Derived.Maps.RangeWalk
import Derived.DeepKeys4
namespace Go.Proofs.YtlgoeipgmjcboaaGreatDoor.Me
open Go Go.RowKit

/-- How a pointer to a block's head reads. -/
def ptR : Value → Option (DataW Unit × List MemPlace)
  | .pointer none => some (.lit (.int .i64 (-1)), [])
  | .pointer (some ⟨b, 0, none⟩) => some (.lit (.int .i64 (b : Int)), [])
  | _ => none
def ptV : Option Nat → Value
  | none => .pointer none
  | some b => .pointer (some ⟨b, 0, none⟩)
def ptI : Option Nat → Int
  | none => -1
  | some b => b
theorem ptR_mk (p : Option Nat) : ptR (ptV p) = some (.lit (.int .i64 (ptI p)), []) := by cases p <;> rfl
theorem ptR_inv {v : Value} {y : DataW Unit × List MemPlace} (h : ptR v = some y) : ∃ p, v = ptV p ∧ y = (.lit (.int .i64 (ptI p)), []) := by
  unfold ptR at h
  split at h
  · cases h
    exact ⟨none, rfl, rfl⟩
  · cases h
    exact ⟨some _, rfl, rfl⟩
  · cases h
theorem ptI_inj {p q : Option Nat} (h : ptI p = ptI q) : p = q := by
  cases p <;> cases q <;> simp_all [ptI] <;> omega
theorem ptR_is {v : Value} {p : Option Nat} {ps : List MemPlace} (h : ptR v = some (.lit (.int .i64 (ptI p)), ps)) : v = ptV p := by
  obtain ⟨q, rfl, e⟩ := ptR_inv h
  simp only [Prod.mk.injEq, DataW.lit.injEq, Lit.int.injEq, true_and] at e
  rw [ptI_inj e.1]

/-- Keys of one kind. -/
structure KB (P : Program) (k : TypeId) (α : Type) where
  ok : α → Prop
  val : α → Value
  lit : α → Lit
  keyed : Go.Maps.Keyed P k
  key : ∀ x, ok x → keyOf P k (val x) = some (lit x)
  inj : ∀ x y, ok x → ok y → lit x = lit y → x = y
section
variable {P : Program} {k : TypeId} {α : Type} (K : KB P k α)

/-- What a datum says. -/
structure KB.Says (D : DataW Unit) (M : List (α × Nat)) : Prop where
  size : Go.Maps.size D = M.length
  ok : ∀ e ∈ M, K.ok e.1
  nodup : M.Pairwise fun e f => e.1 ≠ f.1
  hit : ∀ e ∈ M, ∀ z, D.atKey (K.lit e.1) z = .lit (.int .i64 (e.2 : Int))
  only : ∀ l, Go.Maps.has D l = true → ∃ e ∈ M, l = K.lit e.1
  miss : ∀ x, K.ok x → (∀ e ∈ M, e.1 ≠ x) → ∀ z, D.atKey (K.lit x) z = z
def look [DecidableEq α] (M : List (α × Nat)) (x : α) : Option Nat := (M.find? fun e => decide (e.1 = x)).map (·.2)
theorem look_some [DecidableEq α] {M : List (α × Nat)} {x : α} {c : Nat} (h : look M x = some c) : (x, c) ∈ M := by
  unfold look at h
  cases e : M.find? (fun e => decide (e.1 = x)) with
  | none => rw [e] at h; cases h
  | some y =>
    rw [e] at h
    have h1 := List.find?_some e
    have h2 := List.mem_of_find?_eq_some e
    simp only [Option.map_some, Option.some.injEq] at h
    simp only [decide_eq_true_eq] at h1
    rw [← h, ← h1]
    exact h2
theorem look_none [DecidableEq α] {M : List (α × Nat)} {x : α} (h : look M x = none) : ∀ e ∈ M, e.1 ≠ x := by
  unfold look at h
  simp only [Option.map_eq_none_iff, List.find?_eq_none, decide_eq_true_eq] at h
  exact h
theorem look_mem [DecidableEq α] {M : List (α × Nat)} (hn : M.Pairwise fun e f => e.1 ≠ f.1) {x : α} {c : Nat} (h : (x, c) ∈ M) : look M x = some c := by
  induction M with
  | nil => cases h
  | cons e M ih =>
    rw [List.pairwise_cons] at hn
    unfold look
    rw [List.find?_cons]
    rcases List.mem_cons.1 h with rfl | h
    · simp
    · have := hn.1 _ h
      rw [decide_eq_false (by simpa using this)]
      exact ih hn.2 h
variable {K}
theorem KB.Says.look [DecidableEq α] {D : DataW Unit} {M : List (α × Nat)} (h : K.Says D M) (x : α) (hx : K.ok x) : D.atKey (K.lit x) (.lit (.int .i64 (-1))) = .lit (.int .i64 (ptI (look M x))) := by
  cases e : Me.look M x with
  | none => exact h.miss x hx (look_none e) _
  | some c => exact h.hit _ (look_some e) _
theorem KB.Says.has {D : DataW Unit} {M : List (α × Nat)} (h : K.Says D M) (e : α × Nat) (he : e ∈ M) : Go.Maps.has D (K.lit e.1) = true := Go.Maps.has_true_of_atKey (h.hit e he)
theorem KB.Says.hasnt {D : DataW Unit} {M : List (α × Nat)} (h : K.Says D M) (x : α) (hx : K.ok x) (hm : ∀ e ∈ M, e.1 ≠ x) : Go.Maps.has D (K.lit x) = false := Go.Maps.has_false_of_atKey (h.miss x hx hm)
theorem KB.isKey (x : α) (hx : K.ok x) : WideAt.IsKeyLit (K.lit x) := K.keyed.key (K.key x hx)
theorem KB.ne {x y : α} (hx : K.ok x) (hy : K.ok y) (h : x ≠ y) : K.lit x ≠ K.lit y := fun e => h (K.inj x y hx hy e)
theorem KB.Says.nil : K.Says (.map []) [] := ⟨rfl, by simp, List.Pairwise.nil, by simp, fun _ h => by simp [Go.Maps.has] at h, fun _ _ _ _ => rfl⟩
theorem KB.Says.put {D : DataW Unit} {M : List (α × Nat)} (h : K.Says D M) (ht : Go.Maps.Tidy D) (x : α) (hx : K.ok x) (hm : ∀ e ∈ M, e.1 ≠ x) (c : Nat) : K.Says (D.put (K.lit x) (.lit (.int .i64 (c : Int)))) (M ++ [(x, c)]) where
  size := by
    rw [Go.Maps.size_put ht, h.hasnt x hx hm]
    simp [h.size]
  ok := by
    intro e he
    rcases List.mem_append.1 he with he | he
    · exact h.ok e he
    · simp at he
      subst he
      exact hx
  nodup := by
    rw [List.pairwise_append]
    exact ⟨h.nodup, List.pairwise_singleton _ _, fun e he f hf => by simp at hf; subst hf; exact hm e he⟩
  hit := by
    intro e he z
    rcases List.mem_append.1 he with he | he
    · rw [Go.Maps.atKey_put_other (K.ne (h.ok e he) hx (hm e he))]
      exact h.hit e he z
    · simp at he
      subst he
      exact Go.Maps.atKey_put_same ht.isMap (K.isKey x hx) _ _
  only := by
    intro l hl
    by_cases e : l = K.lit x
    · exact ⟨(x, c), by simp, e⟩
    · rw [Go.Maps.has_put_other e] at hl
      obtain ⟨f, hf, e'⟩ := h.only l hl
      exact ⟨f, List.mem_append_left _ hf, e'⟩
  miss := by
    intro y hy hn z
    have hne : y ≠ x := fun e => hn (x, c) (by simp) e.symm
    rw [Go.Maps.atKey_put_other (K.ne hy hx hne)]
    exact h.miss y hy (fun e he => hn e (List.mem_append_left _ he)) z
theorem length_strike [DecidableEq α] {M : List (α × Nat)} (hn : M.Pairwise fun e f => e.1 ≠ f.1) {x : α} {c : Nat} (h : (x, c) ∈ M) : (M.filter fun e => decide (e.1 ≠ x)).length + 1 = M.length := by
  induction M with
  | nil => cases h
  | cons e M ih =>
    rw [List.pairwise_cons] at hn
    rcases List.mem_cons.1 h with rfl | h
    · rw [List.filter_cons_of_neg (by simp), List.length_cons]
      congr 1
      rw [List.filter_eq_self.2]
      intro f hf
      simpa using (hn.1 f hf).symm
    · rw [List.filter_cons_of_pos (by simpa using hn.1 _ h), List.length_cons, List.length_cons, ih hn.2 h]
theorem KB.Says.del [DecidableEq α] {D : DataW Unit} {M : List (α × Nat)} (h : K.Says D M) (ht : Go.Maps.Tidy D) (x : α) (hx : K.ok x) (c : Nat) (hm : (x, c) ∈ M) : K.Says (D.del (K.lit x)) (M.filter fun e => decide (e.1 ≠ x)) where
  size := by
    have h1 := Go.Maps.size_del (k := K.lit x) ht
    rw [h.has (x, c) hm] at h1
    have h2 := length_strike h.nodup hm
    have h3 := h.size
    simp at h1
    omega
  ok := fun e he => h.ok e (List.mem_filter.1 he).1
  nodup := h.nodup.filter _
  hit := by
    intro e he z
    obtain ⟨he, hne⟩ := List.mem_filter.1 he
    simp only [decide_eq_true_eq] at hne
    rw [Go.Maps.atKey_del_other (K.ne (h.ok e he) hx hne)]
    exact h.hit e he z
  only := by
    intro l hl
    by_cases e : l = K.lit x
    · rw [e, Go.Maps.has_del_same] at hl
      cases hl
    · rw [Go.Maps.has_del_other e] at hl
      obtain ⟨f, hf, e'⟩ := h.only l hl
      exact ⟨f, List.mem_filter.2 ⟨hf, by simpa using fun e2 => e (by rw [e', e2])⟩, e'⟩
  miss := by
    intro y hy hn z
    by_cases e : y = x
    · subst e
      exact Go.Maps.atKey_del_same z
    · rw [Go.Maps.atKey_del_other (K.ne hy hx e)]
      exact h.miss y hy (fun f hf e' => hn f (List.mem_filter.2 ⟨hf, by simpa [e'] using e⟩) e') z
theorem sameKey_lit [DecidableEq α] {x y : α} (hx : K.ok x) (hy : K.ok y) : (K.lit x).sameKey (K.lit y) = decide (x = y) := by
  by_cases e : x = y
  · subst e
    rw [WideAt.sameKey_self (K.isKey x hx)]
    simp
  · rw [Go.Maps.sameKey_ne (K.ne hx hy e)]
    simp [e]

/-- Block b is a map that holds just these. -/
def PMap (K : KB P k α) (w : World) (b : Nat) (M : List (α × Nat)) : Prop := ∃ D : DataW Unit, w.ownsMap P k ptR b M.length D ∧ K.Says D M
theorem ownsMap_tight {w : World} {R : Value → Option (DataW Unit × List MemPlace)} {b n : Nat} {D : DataW Unit} (h : w.ownsMap P k R b n D) : w.ownsMap P k R b (Go.Maps.size D) D := by
  obtain ⟨es, clock, hb, F, hs, rfl⟩ := h
  exact ⟨es, clock, hb, F, by simp [Go.Maps.size, length_sorted], rfl⟩
theorem PMap.of {w : World} {b n : Nat} {D : DataW Unit} {M : List (α × Nat)} (h : w.ownsMap P k ptR b n D) (hS : K.Says D M) : PMap K w b M := ⟨D, hS.size ▸ ownsMap_tight h, hS⟩
theorem PMap.lt {w : World} {b : Nat} {M : List (α × Nat)} (h : PMap K w b M) : b < w.heap.size := by
  obtain ⟨D, h1, _⟩ := h
  exact h1.lt
theorem PMap.mods {w w' : World} {b : Nat} {M : List (α × Nat)} {F : List Nat} (h : PMap K w b M) (hm : Mods F w w') (hn : b ∉ F) : PMap K w' b M := by
  obtain ⟨D, ⟨es, clock, hb, F', h1, h2⟩, h3⟩ := h
  exact ⟨D, ⟨es, clock, hm.heap hb hn, F', h1, h2⟩, h3⟩
theorem PMap.start (K : KB P k α) (w : World) : PMap K (w.alloc (.map #[] 0)) w.heap.size [] := ⟨_, World.ownsMap_made _ _ _ _, KB.Says.nil⟩
theorem PMap.nodup {w : World} {b : Nat} {M : List (α × Nat)} (h : PMap K w b M) : M.Pairwise fun e f => e.1 ≠ f.1 := by
  obtain ⟨D, _, h2⟩ := h
  exact h2.nodup
theorem PMap.oks {w : World} {b : Nat} {M : List (α × Nat)} (h : PMap K w b M) : ∀ e ∈ M, K.ok e.1 := by
  obtain ⟨D, _, h2⟩ := h
  exact h2.ok
theorem PMap.look [DecidableEq α] {w : World} {b : Nat} {M : List (α × Nat)} (h : PMap K w b M) {t e : TypeId} (ht : P.underlying t = some (.map k e)) (hz : (zeroValue e).run P w = .ok (.pointer none) w) (x : α) (hx : K.ok x) :
    (Instr.lookup t (.map (some b)) (K.val x) false).run P w = .ok (ptV (Me.look M x)) w := by
  obtain ⟨D, h1, h2⟩ := h
  obtain ⟨v, ps, hrun, hat⟩ := h1.lookup K.keyed ht hz (ptR_mk none) (K.key x hx)
  rw [show ptI none = -1 from rfl, h2.look x hx] at hat
  rw [hrun, ptR_is hat]
theorem PMap.len {w : World} {b : Nat} {M : List (α × Nat)} (h : PMap K w b M) {t e : TypeId} (ht : P.underlying t = some (.map k e)) (ty : TypeId) : (Builtin.len_ #[t] ty #[.map (some b)]).run P w = .ok (.int .i64 M.length) w := by
  obtain ⟨D, h1, h2⟩ := h
  rw [h1.len ht ty, h2.size]
theorem mods_grown {w w' : World} {b : Nat} (h : w.grownBy w' (some b)) : Mods [b] w w' := (Mods.refl [b] w).grown h (fun x hx => Or.inl (by cases hx; simp))

section
variable (w : World) {ops : Array Oper} {rest : List Oper} {o : Oper} {a : Act} {Q : Exit → Act → World → Prop}
/-- 'm[k] = p', of a new key. -/
theorem wpList_put_pm (hg : o.guard = none) (m x v : Operand) (t : TypeId) (hop : o.op = Op.mapUpdate t m x v) (e : TypeId) (ht : P.underlying t = some (.map k e)) (b : Nat) (M : List (α × Nat)) (hm : a.eval m = .map (some b))
    (h : PMap K w b M) (hn : M.length < maxLen) (y : α) (hy : K.ok y) (hx : a.eval x = K.val y) (hnew : ∀ e ∈ M, e.1 ≠ y) (c : Nat) (hv : a.eval v = .pointer (some ⟨c, 0, none⟩))
    (hK : ∀ w', PMap K w' b (M ++ [(y, c)]) → Mods [b] w w' → w'.heap.size = w.heap.size → wpList P ops Q rest (a.put o.dst undef) w') : wpList P ops Q (o :: rest) a w := by
  obtain ⟨D, h1, h2⟩ := h
  refine wpList_mapUpdate_in w hg m x v t hop k e K.keyed ht ptR b M.length D hm h1 hn (K.val y) (.pointer (some ⟨c, 0, none⟩)) (K.lit y) hx hv (K.key y hy) (.lit (.int .i64 (c : Int))) [] (ptR_mk (some c)) ?_
  intro w' g1 g2
  refine hK w' (PMap.of g1 (h2.put (h1.tidy K.keyed) y hy hnew c)) (mods_grown g2.grown) ?_
  obtain ⟨_, _, _, _, _, rfl⟩ := g2
  simp [Go.ChangeMaps.setBlock]
/-- 'delete(m, k)', of a key that is there. -/
theorem wpList_del_pm [DecidableEq α] (hg : o.guard = none) (m x : Operand) (t : TypeId) (hop : o.op = Op.call { callee := Callee.builtin Builtin.delete, args := #[m, x], argTypes := #[t, k] }) (e : TypeId) (ht : P.underlying t = some (.map k e)) (b : Nat) (M : List (α × Nat)) (hm : a.eval m = .map (some b))
    (h : PMap K w b M) (y : α) (hx : a.eval x = K.val y) (c : Nat) (hy : (y, c) ∈ M)
    (hK : ∀ w', PMap K w' b (M.filter fun e => decide (e.1 ≠ y)) → Mods [b] w w' → w'.heap.size = w.heap.size → wpList P ops Q rest (a.put o.dst (.tuple #[])) w') : wpList P ops Q (o :: rest) a w := by
  obtain ⟨D, h1, h2⟩ := h
  have hok := h2.ok _ hy
  refine wpList_delete_own w hg m x t k hop e K.keyed ht ptR b M.length D hm h1 (K.val y) (K.lit y) hx (K.key y hok) ?_
  intro w' g1 g2
  refine hK w' (PMap.of g1 (h2.del (h1.tidy K.keyed) y hok c hy)) (mods_grown g2.grown) ?_
  obtain ⟨_, _, _, _, _, rfl⟩ := g2
  simp [Go.ChangeMaps.setBlock]
end

/-- A range over the map is under way: it holds M; T are still to come. -/
def PRange (K : KB P k α) (w : World) (b r : Nat) (M T : List (α × Nat)) : Prop :=
  ∃ (n : Nat) (D : DataW Unit) (left : Lit → Bool) (cnt : Nat), w.ranges P k ptR b r n D left cnt ∧ K.Says D M ∧ T = M.filter fun e => left (K.lit e.1)
theorem PRange.pmap {w : World} {b r : Nat} {M T : List (α × Nat)} (h : PRange K w b r M T) : PMap K w b M := by
  obtain ⟨n, D, left, cnt, h1, h2, _⟩ := h
  exact PMap.of h1.owns h2
theorem PRange.mods {w w' : World} {b r : Nat} {M T : List (α × Nat)} {F : List Nat} (h : PRange K w b r M T) (hm : Mods F w w') (hb : b ∉ F) (hr : r ∉ F) : PRange K w' b r M T := by
  obtain ⟨n, D, left, cnt, ⟨es, clock, since, seen, c0, g1, g2, g3, g4, g5, g6⟩, h2, h3⟩ := h
  exact ⟨n, D, left, cnt, ⟨es, clock, since, seen, c0, hm.heap g1 hb, g2, g3, g4, hm.heap g5 hr, g6⟩, h2, h3⟩
theorem PRange.left {w w' : World} {b r : Nat} {M T : List (α × Nat)} {F : List Nat} (h : PRange K w b r M T) (hm : Mods F w w') (hb : b ∉ F) (hr : r ∉ F) : w'.rangeLeft b r = w.rangeLeft b r := by
  obtain ⟨n, D, left, cnt, ⟨es, clock, since, seen, c0, g1, g2, g3, g4, g5, g6⟩, h2, h3⟩ := h
  unfold World.rangeLeft
  rw [hm.heap g1 hb, hm.heap g5 hr, g1, g5]
theorem PRange.lt {w : World} {b r : Nat} {M T : List (α × Nat)} (h : PRange K w b r M T) : r < w.heap.size := by
  obtain ⟨n, D, left, cnt, h1, _⟩ := h
  exact h1.lt
theorem PRange.sub {w : World} {b r : Nat} {M T : List (α × Nat)} (h : PRange K w b r M T) : ∀ e ∈ T, e ∈ M := by
  obtain ⟨n, D, left, cnt, _, _, rfl⟩ := h
  exact fun e he => (List.mem_filter.1 he).1
theorem PRange.nodup {w : World} {b r : Nat} {M T : List (α × Nat)} (h : PRange K w b r M T) : T.Pairwise fun e f => e.1 ≠ f.1 := by
  obtain ⟨n, D, left, cnt, _, h2, rfl⟩ := h
  exact h2.nodup.filter _
section
variable (w : World) {ops : Array Oper} {rest : List Oper} {o : Oper} {a : Act} {Q : Exit → Act → World → Prop}
theorem wpList_range_pm (hg : o.guard = none) (m : Operand) (t : TypeId) (hop : o.op = Op.range t m) (e : TypeId) (ht : P.underlying t = some (.map k e)) (b : Nat) (M : List (α × Nat)) (hm : a.eval m = .map (some b)) (h : PMap K w b M)
    (hK : ∀ w', PRange K w' b w.heap.size M M → Mods [] w w' → w'.heap.size = w.heap.size + 1 → wpList P ops Q rest (a.put o.dst (.pointer (some ⟨w.heap.size, 0, none⟩))) w') : wpList P ops Q (o :: rest) a w := by
  obtain ⟨D, h1, h2⟩ := h
  refine wpList_range_own w hg m t hop k e K.keyed ht ptR b M.length D hm h1 ?_
  intro w' g1 g2 g3
  refine hK w' ⟨M.length, D, _, _, g1, h2, (List.filter_eq_self.2 fun e he => h2.has e he).symm⟩ ((Mods.refl [] w).grown g2 (fun x hx => by cases hx)) g3
/-- The next one. -/
theorem wpList_next_pm [DecidableEq α] (hg : o.guard = none) (it : Operand) (hop : o.op = Op.next it false) (b r : Nat) (M T : List (α × Nat)) (hit : a.eval it = .pointer (some ⟨r, 0, none⟩)) (h : PRange K w b r M T)
    (hDone : T = [] → wpList P ops Q rest (a.put o.dst (.tuple #[.bool false])) w)
    (hMore : ∀ (x : α) (c : Nat) (w' : World), K.ok x → (x, c) ∈ T → (x, c) ∈ M → PRange K w' b r M (T.filter fun e => decide (e.1 ≠ x)) → Mods [r] w w' → w'.heap.size = w.heap.size → w'.rangeLeft b r < w.rangeLeft b r →
      (Instr.entry (.pointer (some ⟨r, 0, none⟩))).run P w' = .ok (.tuple #[K.val x, .pointer (some ⟨c, 0, none⟩)]) w' →
      wpList P ops Q rest (a.put o.dst (.tuple #[.bool true, K.val x, .pointer (some ⟨c, 0, none⟩)])) w') :
    wpList P ops Q (o :: rest) a w := by
  obtain ⟨n, D, left, cnt, h1, h2, rfl⟩ := h
  refine wpList_next_ranges w hg it hop k K.keyed ptR (fun v : Value => v) ptV (fun v _ _ => ⟨v, rfl⟩) (fun v y hv => by obtain ⟨p, e, _⟩ := ptR_inv hv; exact ⟨p, e⟩) b r n D left cnt hit h1 (fun _ hl => hDone ?_) ?_
  · rw [List.filter_eq_nil_iff]
    intro e he
    rw [hl]
    simp
  · intro v p kl y w' cnt' hkey hlk hv hat hrg hlt hgr hsz hen
    obtain ⟨⟨x', c⟩, he, rfl⟩ := h2.only kl (Go.Maps.has_true_of_atKey hat)
    have hx := h2.ok _ he
    obtain rfl := K.keyed.inj hkey (K.key x' hx)
    have hy := (ptR_mk p).symm.trans hv
    have hc := hat (.lit (.int .i64 0))
    rw [h2.hit _ he] at hc
    simp only [Option.some.injEq] at hy
    rw [← hy] at hc
    simp only [DataW.lit.injEq, Lit.int.injEq, true_and] at hc
    obtain rfl : some c = p := ptI_inj hc
    refine hMore x' c w' hx (List.mem_filter.2 ⟨he, hlk⟩) he ⟨n, D, _, cnt', hrg, h2, ?_⟩ (mods_grown hgr) hsz (by rw [hrg.left_eq, h1.left_eq]; exact hlt) hen
    rw [List.filter_filter]
    refine List.filter_congr fun e hm => ?_
    rw [sameKey_lit (h2.ok e hm) hx]
    by_cases e1 : e.1 = x' <;> simp [e1]
/-- 'delete(m, k)' in a round. -/
theorem wpList_del_range [DecidableEq α] (hg : o.guard = none) (m x : Operand) (t : TypeId) (hop : o.op = Op.call { callee := Callee.builtin Builtin.delete, args := #[m, x], argTypes := #[t, k] }) (e : TypeId) (ht : P.underlying t = some (.map k e)) (b r : Nat) (M T : List (α × Nat)) (hm : a.eval m = .map (some b))
    (h : PRange K w b r M T) (y : α) (hx : a.eval x = K.val y) (c : Nat) (hy : (y, c) ∈ M)
    (hK : ∀ w', PRange K w' b r (M.filter fun e => decide (e.1 ≠ y)) (T.filter fun e => decide (e.1 ≠ y)) → Mods [b] w w' → w'.heap.size = w.heap.size → w'.rangeLeft b r ≤ w.rangeLeft b r → wpList P ops Q rest (a.put o.dst (.tuple #[])) w') : wpList P ops Q (o :: rest) a w := by
  obtain ⟨n, D, left, cnt, h1, h2, rfl⟩ := h
  have hok := h2.ok _ hy
  refine wpList_delete_ranges w hg m x t k hop e K.keyed ht ptR b r n D left cnt hm h1 (K.val y) (K.lit y) hx (K.key y hok) ?_
  intro w' cnt' g1 hle g2
  refine hK w' ⟨n, _, _, cnt', g1, h2.del (h1.owns.tidy K.keyed) y hok c hy, ?_⟩ (mods_grown g2.grown) ?_ (by rw [g1.left_eq, h1.left_eq]; exact hle)
  · rw [List.filter_filter, List.filter_filter]
    refine List.filter_congr fun e hm => ?_
    rw [sameKey_lit (h2.ok e hm) hok]
    by_cases e1 : e.1 = y <;> simp [e1]
  · obtain ⟨_, _, _, _, _, rfl⟩ := g2
    simp [Go.ChangeMaps.setBlock]
end
end
end Go.Proofs.YtlgoeipgmjcboaaGreatDoor.Me
namespace Go.Proofs.YtlgoeipgmjcboaaGreatDoor
open Go.RowKit Me Go.WideShapes

theorem laidOut0 : laidOutB Tryz.prog = true := by kernel_rfl
theorem cells92 : Tryz.prog.cellsOf 92 = 2 := by kernel_rfl
theorem cells3 : Tryz.prog.cellsOf 3 = 1 := by kernel_rfl
theorem cells23 : Tryz.prog.cellsOf 23 = 1 := by kernel_rfl
theorem wide92 : (match Tryz.prog.underlying 92 with | some (.array _ _) | some (.struct _) => true | _ => false) = true := by rw [Tryz.underlying92]
theorem row92 : (92 : TypeId) < Tryz.prog.types.size := of_decide_eq_true (by kernel_rfl)
set_option maxRecDepth 100000 in
theorem law92 : WideMaps.KeyLaw Tryz.prog 92 := deep_law_laid laidOut0 (m := 2) (by omega) row92 (by kernel_rfl) wide92
theorem key92 : Tryz.prog.keyType 92 = true := by kernel_rfl
def placeV (p : Int × Nat) : Value := .agg #[.int .i64 p.1, .int .u32 (p.2 : Int)]
def placeL (p : Int × Nat) : Lit := .string (keyBytes [.int .i64 p.1, .int .u32 (p.2 : Int)])
def placeOk (p : Int × Nat) : Prop := (Lit.int .i64 p.1).wf = true ∧ p.2 < 4294967296
theorem wf_u32 (n : Nat) (h : n < 4294967296) : (Lit.int .u32 (n : Int)).wf = true := by
  simp [Lit.wf, IntKind.min, IntKind.max, IntKind.signed, IntKind.bits]
  omega
theorem place_key (p : Int × Nat) (h : placeOk p) : keyOf Tryz.prog 92 (placeV p) = some (placeL p) := by
  obtain ⟨h1, h2⟩ := h
  have h3 := wf_u32 p.2 h2
  obtain ⟨d, hd⟩ : ∃ d, Tryz.prog.types.size = d + 1 := Nat.exists_eq_succ_of_ne_zero (fun h => by
    have h' := row92
    rw [h] at h'
    exact absurd h' (Nat.not_lt_zero _))
  unfold keyOf placeV placeL
  rw [Tryz.underlying92]
  simp only [key92, Bool.true_and, hd]
  simp [Value.formed, Tryz.underlying92, cells92, Program.keyLits, Value.cells, cells3, cells23, Tryz.underlying3, Tryz.underlying23, h1, h3]
theorem u16_key (n : Nat) (h : n < 65536) : keyOf Tryz.prog 37 (.int .u16 (n : Int)) = some (.int .u16 (n : Int)) := Go.Maps.keyOf_int_mk Tryz.underlying37 (by
  simp [Lit.wf, IntKind.min, IntKind.max, IntKind.signed, IntKind.bits]
  omega)
def KP : KB Tryz.prog 92 (Int × Nat) where
  ok := placeOk
  val := placeV
  lit := placeL
  keyed := Go.Maps.Keyed.of_law law92
  key := place_key
  inj := fun x y hx hy e => by
    have h := (Go.Maps.Keyed.of_law law92).inj (place_key x hx) (e ▸ place_key y hy)
    obtain ⟨x1, x2⟩ := x
    obtain ⟨y1, y2⟩ := y
    simp [placeV] at h
    obtain ⟨rfl, h2⟩ := h
    have : x2 = y2 := Int.ofNat.inj h2
    rw [this]
def KU : KB Tryz.prog 37 Nat where
  ok := fun n => n < 65536
  val := fun n => .int .u16 (n : Int)
  lit := fun n => .int .u16 (n : Int)
  keyed := Go.Maps.int_keyed Tryz.underlying37
  key := u16_key
  inj := fun x y _ _ e => by
    simp only [Lit.int.injEq, true_and] at e
    exact Int.ofNat.inj e
end Go.Proofs.YtlgoeipgmjcboaaGreatDoor
