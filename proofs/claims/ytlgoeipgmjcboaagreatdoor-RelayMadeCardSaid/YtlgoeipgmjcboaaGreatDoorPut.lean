/- Memory: what a call may write (a list of blocks), slices that a call owns, and append of whatever source onto one. Over any program. | The walks of wire.bad, wire.Good and wire.Cut: what they compute, said of the plain text. | A writer in memory: what it means that one stands in a block, and the walks of room and of the four puts. -/
import Derived.Maps.AppendAt
import Derived.Deep.AppendSrc
import Derived.Deep.AppendLies
import Derived.WalkKit
import Derived.Lib.Hide
import Derived.Deep.QuietTactic
import Derived.BigQuiet
import Derived.Test.YtlgoeipgmjcboaaGreatDoorText2
import Derived.Test.YtlgoeipgmjcboaaGreatDoorShelf
import Derived.Test.YtlgoeipgmjcboaaGreatDoorRows
import Derived.WalkSpells
import Derived.WalkLawsBesides
import Derived.Lib.OthersKept
import Derived.Test.YtlgoeipgmjcboaaGreatDoorRead
namespace Go.Proofs.YtlgoeipgmjcboaaGreatDoor.Me
open Go Go.RowKit

/-- The blocks of F and new ones may have been written; all else is as it was. -/
structure Mods (F : List Nat) (w w' : World) : Prop where
  os : w'.os = w.os
  tape : w'.tape = w.tape
  output : w'.output = w.output
  size : w.heap.size ≤ w'.heap.size
  block : ∀ k, k < w.heap.size → k ∉ F → w'.heap[k]? = w.heap[k]?

section
variable {F G : List Nat} {w w' w1 w2 : World}

theorem Mods.refl (F : List Nat) (w : World) : Mods F w w := ⟨rfl, rfl, rfl, Nat.le_refl _, fun _ _ _ => rfl⟩
theorem Mods.trans (h : Mods F w w1) (k : Mods G w1 w2) (hg : ∀ b ∈ G, b ∈ F ∨ w.heap.size ≤ b) : Mods F w w2 :=
  ⟨k.os.trans h.os, k.tape.trans h.tape, k.output.trans h.output, Nat.le_trans h.size k.size, fun b hb hn =>
    (k.block b (Nat.lt_of_lt_of_le hb h.size) (fun hm => by rcases hg b hm with h' | h'; exact hn h'; omega)).trans (h.block b hb hn)⟩
theorem Mods.mono (h : Mods F w w') (hs : ∀ b ∈ F, b ∈ G ∨ w.heap.size ≤ b) : Mods G w w' :=
  ⟨h.os, h.tape, h.output, h.size, fun b hb hn => h.block b hb fun hm => by rcases hs b hm with h' | h'; exact hn h'; omega⟩
theorem Mods.below (h : Below w.heap.size w w') (F : List Nat) : Mods F w w' := ⟨h.os, h.tape, h.output, h.size, fun b hb _ => h.block b hb⟩
theorem Mods.toBelow (h : Mods F w w') (hF : ∀ b ∈ F, w.heap.size ≤ b) : Below w.heap.size w w' := ⟨h.os, h.tape, h.output, h.size, fun b hb => h.block b hb fun hm => by have := hF b hm; omega⟩
theorem Mods.drew (h : Mods F w w1) : Mods F w w1.drew := ⟨h.os, h.tape, h.output, h.size, h.block⟩
theorem Mods.drewN (h : Mods F w w1) (n : Nat) : Mods F w (w1.drewN n) := ⟨h.os, h.tape, h.output, h.size, h.block⟩
theorem Mods.alloc (h : Mods F w w1) (o : Obj) : Mods F w (w1.alloc o) :=
  ⟨h.os, h.tape, h.output, Nat.le_trans h.size (by simp), fun b hb hn => (Below.heap_alloc w1 o b (Nat.lt_of_lt_of_le hb h.size)).trans (h.block b hb hn)⟩
theorem Mods.setCell (h : Mods F w w1) {p : Addr} (hp : p.block ∈ F ∨ w.heap.size ≤ p.block) (u : Value) : Mods F w (w1.setCell p u) :=
  ⟨h.os, h.tape, h.output, by simpa [World.setCell] using h.size, fun b hb hn => (Below.heap_setCell w1 p u b (by
    rintro rfl
    rcases hp with hp | hp
    · exact hn hp
    · omega)).trans (h.block b hb hn)⟩
theorem Mods.grown (h : Mods F w w1) {row : Option Nat} (hg : w1.grownBy w2 row) (hr : ∀ b, row = some b → b ∈ F ∨ w.heap.size ≤ b) : Mods F w w2 :=
  ⟨hg.os.trans h.os, hg.tape.trans h.tape, hg.output.trans h.output, Nat.le_trans h.size hg.size, fun b hb hn =>
    (hg.block b (Nat.lt_of_lt_of_le hb h.size) (fun e => by rcases hr b e.symm with h' | h'; exact hn h'; omega)).trans (h.block b hb hn)⟩

theorem Mods.heap (h : Mods F w w') {k : Nat} {o : Obj} (ho : w.heap[k]? = some o) (hn : k ∉ F) : w'.heap[k]? = some o := by
  rw [h.block k (Array.getElem?_eq_some_iff.1 ho).1 hn]
  exact ho
theorem Mods.cell (h : Mods F w w') {p : Addr} (hp : p.block < w.heap.size) (hn : p.block ∉ F) : w'.cell? p = w.cell? p := World.cell?_of_block (h.block _ hp hn)
theorem Mods.frozen (h : Mods F w w') {p : Addr} (hp : p.block < w.heap.size) (hn : p.block ∉ F) : w'.frozen? p = w.frozen? p := World.frozen?_of_block (h.block _ hp hn)

theorem ownsRow_mods {base : Nat} {e : TypeId} {size : Nat} {v : Value} {n : Nat} {xs : List Value} (h : w.ownsRow base e size v n xs) (hm : Mods F w w') (hn : ∀ k, v.ownBlock = some k → k ∉ F) : w'.ownsRow base e size v n xs := by
  refine ⟨h.1, ?_⟩
  rcases h.2 with h2 | ⟨g, cap, cur, rfl, hb, hg, r⟩
  · exact Or.inl h2
  · exact Or.inr ⟨g, cap, cur, rfl, hb, hm.heap hg (hn g rfl), r⟩
theorem ownsRow_base {base B : Nat} {e : TypeId} {size : Nat} {v : Value} {n : Nat} {xs : List Value} (h : w.ownsRow base e size v n xs) (hB : B ≤ base) : w.ownsRow B e size v n xs := by
  refine ⟨h.1, ?_⟩
  rcases h.2 with h2 | ⟨g, cap, cur, rfl, hb, r⟩
  · exact Or.inl h2
  · exact Or.inr ⟨g, cap, cur, rfl, by omega, r⟩
theorem ownsRow_lt {base : Nat} {e : TypeId} {size : Nat} {v : Value} {n : Nat} {xs : List Value} (h : w.ownsRow base e size v n xs) : ∀ k, v.ownBlock = some k → k < w.heap.size := fun k hk => (h.lt k hk).2
/-- A slice that is owned is nil, or stands at its row's head. -/
theorem ownsRow_form {base : Nat} {e : TypeId} {size : Nat} {v : Value} {n : Nat} {xs : List Value} (h : w.ownsRow base e size v n xs) :
    (v = .slice none 0 0 ∧ n = 0 ∧ xs = []) ∨ ∃ g cap, v = .slice (some ⟨g, 0, none⟩) n cap ∧ n ≤ cap ∧ cap ≤ maxLen ∧ g < w.heap.size ∧ v.ownBlock = some g := by
  rcases h.2 with ⟨rfl, rfl⟩ | ⟨g, cap, cur, rfl, hb, hg, hn, hc, _⟩
  · exact Or.inl ⟨rfl, rfl, List.eq_nil_of_length_eq_zero (by simpa using h.1)⟩
  · exact Or.inr ⟨g, cap, rfl, hn, hc, (Array.getElem?_eq_some_iff.1 hg).1, rfl⟩
/-- Of rows of unlike elements no two are one. -/
theorem ownsRow_kind {base base' : Nat} {e e' : TypeId} {size size' : Nat} {v v' : Value} {n n' : Nat} {xs xs' : List Value} (h : w.ownsRow base e size v n xs) (h' : w.ownsRow base' e' size' v' n' xs') (hne : e ≠ e') :
    ∀ k, v.ownBlock = some k → v'.ownBlock ≠ some k := by
  intro k hk hk'
  rcases h.2 with ⟨rfl, _⟩ | ⟨g, cap, cur, rfl, _, hg, _⟩
  · simp [Value.ownBlock] at hk
  · rcases h'.2 with ⟨rfl, _⟩ | ⟨g', cap', cur', rfl, _, hg', _⟩
    · simp [Value.ownBlock] at hk'
    · simp only [Value.ownBlock, Option.some.injEq] at hk hk'
      subst hk
      subst hk'
      rw [hg] at hg'
      simp only [Option.some.injEq, Obj.cells.injEq] at hg'
      exact hne hg'.2.1
theorem ownsRow_not {base : Nat} {e e' : TypeId} {size : Nat} {v : Value} {n : Nat} {xs : List Value} (h : w.ownsRow base e size v n xs) {a : Nat} {cs : Array Value} {fr : Nat × Nat} (ha : w.heap[a]? = some (.cells cs e' fr)) (hne : e ≠ e') : v.ownBlock ≠ some a := by
  intro hk
  rcases h.2 with ⟨rfl, _⟩ | ⟨g, cap, cur, rfl, _, hg, _⟩
  · simp [Value.ownBlock] at hk
  · simp only [Value.ownBlock, Option.some.injEq] at hk
    subst hk
    rw [hg] at ha
    simp only [Option.some.injEq, Obj.cells.injEq] at ha
    exact hne ha.2.1
end

section
variable {P : Program} (w : World)

theorem run_app_room (t tx ty e : TypeId) (i : TypeInfo) (ht : P.underlying t = some (.slice e)) (hi : P.info? e = some i) (g sLen sCap : Nat) (cur : Array Value) (hg : w.heap[g]? = some (.cells cur e (0, 0)))
    (x : Value) (m : Nat) (news : List Value) (hs : Src P i.size tx x m news w) (hroom : sLen + m ≤ sCap) (hfit : sLen * i.size + news.length ≤ cur.size) :
    (Builtin.append_ #[t, tx] ty #[.slice (some ⟨g, 0, none⟩) sLen sCap, x]).run P w =
      .ok (.slice (some ⟨g, 0, none⟩) (sLen + m) sCap) (w.setRow g (cur.toList.take (sLen * i.size) ++ news ++ cur.toList.drop (sLen * i.size + news.length)).toArray) := by
  have hst := run_storeCells_at P g (sLen * i.size) e news 0 cur w hg (by simpa using hfit) hs.one
  simp only [Nat.add_zero] at hst
  rcases hs.kind with ⟨e', hk⟩ | hk <;> simp [Builtin.append_, run_underlying ht, run_underlying hk, sizeOf, typeInfo, hi, hs.len, hroom, hs.cells, Addr.add_lit, hst]

/-- append onto a slice that is owned, of whatever source: the new slice is owned; it lies where the old one lay, or in a new block. -/
theorem run_app (base : Nat) (t tx ty e : TypeId) (i : TypeInfo) (z : Value) (size bytes : Nat) (ht : P.underlying t = some (.slice e)) (hi : P.info? e = some i) (hz : i.zero = some z)
    (hsize : i.size = size) (hby : i.bytes = bytes) (hzs : z.cells.size = size)
    (v : Value) (n : Nat) (xs : List Value) (hown : w.ownsRow base e size v n xs) (x : Value) (m : Nat) (news : List Value) (hs : Src P size tx x m news w)
    (h63 : n + m ≤ maxLen) (hbytes : (n + m) * bytes ≤ 140737488355328) (hbase : base ≤ w.heap.size) :
    ∃ v' w', (Builtin.append_ #[t, tx] ty #[v, x]).run P w = .ok v' w' ∧ w'.ownsRow base e size v' (n + m) (xs ++ news) ∧ w.grownBy w' v.ownBlock ∧
      (v'.ownBlock = v.ownBlock ∨ v'.ownBlock = some w.heap.size) := by
  subst hsize
  subst hby
  have hsmall : n + m ≤ 9223372036854775807 := by simp only [maxLen] at h63; omega
  have hl := hs.newsLen
  have hlen : (xs ++ news).length = (n + m) * i.size := by rw [List.length_append, hown.1, hl, Nat.add_mul]
  have grown : ∀ (old : Nat), old < n + m → ∀ (row : Option Nat),
      (w.drew.alloc (.cells ((xs ++ news).toArray ++ Builtin.zeroCells z.cells (grownCap w (n + m) old e - (n + m))) e)).ownsRow base e i.size
        (.slice (some ⟨w.heap.size, 0, none⟩) (n + m) (grownCap w (n + m) old e)) (n + m) (xs ++ news) ∧
      w.grownBy (w.drew.alloc (.cells ((xs ++ news).toArray ++ Builtin.zeroCells z.cells (grownCap w (n + m) old e - (n + m))) e)) row := by
    intro old ho row
    have hge := grownCap_ge w (n + m) old e
    have hcm : grownCap w (n + m) old e ≤ maxLen := grownCap_le_maxLen w (n + m) old e h63
    refine ⟨⟨hlen, .inr ⟨w.heap.size, _, _, rfl, hbase, heap_alloc_new w.drew _, hge, hcm, ?_, ?_⟩⟩, ⟨rfl, rfl, rfl, by simp, fun k hk _ => Below.heap_alloc w.drew _ k hk⟩⟩
    · rw [Array.size_append, List.size_toArray, size_zeroCells, hzs, hlen, ← Nat.add_mul]
      congr 1
      omega
    · simp only [Array.toList_append]
      rw [← hlen]
      exact List.take_left
  rcases hown.2 with ⟨rfl, rfl⟩ | ⟨g, cap, cur, rfl, hbg, hg, hnc, hcm, hcs, htake⟩
  · have hx : xs = [] := List.eq_nil_of_length_eq_zero (by simpa using hown.1)
    subst hx
    by_cases hm : m = 0
    · subst hm
      have hn : news = [] := List.eq_nil_of_length_eq_zero (by simpa using hl)
      subst hn
      refine ⟨.slice none 0 0, w, ?_, World.ownsRow_nil w base e i.size, ⟨rfl, rfl, rfl, Nat.le_refl _, fun _ _ _ => rfl⟩, Or.inl rfl⟩
      rcases hs.kind with ⟨e', hk⟩ | hk <;> simp [Builtin.append_, run_underlying ht, run_underlying hk, sizeOf, typeInfo, hi, hs.len, hs.cells]
    · have hr := run_append_grow_src (P := P) w t tx ty e i z ht hi hz none 0 0 [] (run_firstCells_none w.drew i.size 0 0 0) x m news hs (by omega) (by omega) (growslice_fits (by omega) (by simpa using hbytes))
      have hgr := grown 0 (by omega) (Value.ownBlock (.slice none 0 0))
      exact ⟨_, _, hr, hgr.1, hgr.2, Or.inr rfl⟩
  · by_cases hroom : n + m ≤ cap
    · have hfit : n * i.size + news.length ≤ cur.size := by rw [hl, hcs, ← Nat.add_mul]; exact Nat.mul_le_mul_right _ hroom
      have hr := run_app_room (P := P) w t tx ty e i ht hi g n cap cur hg x m news hs hroom hfit
      refine ⟨_, _, hr, ⟨hlen, .inr ⟨g, cap, _, rfl, hbg, setRow_heap w g cur _ e _ hg, hroom, hcm, ?_, ?_⟩⟩, ⟨rfl, rfl, rfl, by simp, fun k _ hk => setRow_other w g k _ (fun e => hk (by simp [Value.ownBlock, e]))⟩, Or.inl rfl⟩
      · simp only [List.size_toArray, List.length_append, List.length_take, List.length_drop, Array.length_toList]
        omega
      · rw [htake, ← hlen]
        exact List.take_left
    · have holds : ∀ j u, xs[j]? = some u → w.cell? ((⟨g, 0, none⟩ : Addr).add j) = some u := hown.cells (g := g) rfl
      have hr := run_append_grow_src (P := P) w t tx ty e i z ht hi hz (some ⟨g, 0, none⟩) n cap xs (run_firstCells_some w.drew i.size n ⟨g, 0, none⟩ n cap xs hown.1 (by simpa using holds)) x m news hs (by omega) (by omega) (growslice_fits (by omega) hbytes)
      have hgr := grown cap (by omega) (Value.ownBlock (.slice (some ⟨g, 0, none⟩) n cap))
      exact ⟨_, _, hr, hgr.1, hgr.2, Or.inr rfl⟩

/-- At the operation, for the walk. -/
theorem wpList_app {ops : Array Oper} {rest : List Oper} {o : Oper} {a : Act} {Q : Exit → Act → World → Prop} (hgd : o.guard = none) (s x : Operand) (t tx : TypeId)
    (ho : o.op = .call { callee := .builtin .append, args := #[s, x], argTypes := #[t, tx] })
    (base : Nat) (e : TypeId) (i : TypeInfo) (z : Value) (size bytes : Nat) (ht : P.underlying t = some (.slice e)) (hi : P.info? e = some i) (hz : i.zero = some z)
    (hsize : i.size = size) (hby : i.bytes = bytes) (hzs : z.cells.size = size)
    (v : Value) (n : Nat) (xs : List Value) (hs : a.eval s = v) (hown : w.ownsRow base e size v n xs)
    (vx : Value) (m : Nat) (news : List Value) (hx : a.eval x = vx) (hsrc : Src P size tx vx m news w)
    (h63 : n + m ≤ maxLen) (hbytes : (n + m) * bytes ≤ 140737488355328) (hbase : base ≤ w.heap.size)
    (h : ∀ v' w', w'.ownsRow base e size v' (n + m) (xs ++ news) → w.grownBy w' v.ownBlock → (v'.ownBlock = v.ownBlock ∨ v'.ownBlock = some w.heap.size) → wpList P ops Q rest (a.put o.dst v') w') :
    wpList P ops Q (o :: rest) a w := by
  refine wpList_plain hgd fun K hK => ?_
  obtain ⟨v', w', hr, h2, h3, h4⟩ := run_app (P := P) w base t tx o.type e i z size bytes ht hi hz hsize hby hzs v n xs hown vx m news hsrc h63 hbytes hbase
  unfold Oper.wp execOp
  simp only [ho, resolve, invoke, builtin, Sem.run_bind, Sem.run_pure, Result.andThen_ok, List.map_toArray, List.map_cons, List.map_nil, hs, hx, hr]
  exact hK _ _ (h v' w' h2 h3 h4)
end

/-- One element, laid in a block of its own first. -/
theorem src_one {P : Program} {tx e' : TypeId} (hk : P.underlying tx = some (.slice e')) (w : World) (x : Value) (t : TypeId) (h1 : x.oneCell' = true) : Src P 1 tx (.slice (some ⟨w.heap.size, 0, none⟩) 1 1) 1 [x] (w.alloc (.cells #[x] t)) :=
  Src.ofSlice _ hk _ _ _ _ rfl (cell_one_new _ _ _) (by intro u hu; simp at hu; subst hu; exact h1)
theorem cells_new (w : World) (xs : List Value) (t : TypeId) : ∀ j u, xs[j]? = some u → (w.alloc (.cells xs.toArray t)).cell? ((⟨w.heap.size, 0, none⟩ : Addr).add j) = some u := by
  intro j u hj
  rw [Addr.add_lit, cell_of_row _ _ _ _ _ _ (heap_alloc_new w _)]
  simpa using hj
theorem src_lit {P : Program} {tx e' : TypeId} (hk : P.underlying tx = some (.slice e')) (w : World) (xs : List Value) (t : TypeId) (n : Nat) (hn : xs.length = n) (h1 : ∀ u ∈ xs, u.oneCell' = true) : Src P 1 tx (.slice (some ⟨w.heap.size, 0, none⟩) n n) n xs (w.alloc (.cells xs.toArray t)) :=
  Src.ofSlice _ hk _ _ _ _ (by omega) (cells_new _ _ _) h1
/-- A slice that is owned, as a source. -/
theorem src_own {P : Program} {tx e' : TypeId} (hk : P.underlying tx = some (.slice e')) {w : World} {base : Nat} {e : TypeId} {size : Nat} {v : Value} {n : Nat} {xs : List Value} (h : w.ownsRow base e size v n xs) (h1 : ∀ u ∈ xs, u.oneCell' = true) : Src P size tx v n xs w := by
  rcases ownsRow_form h with ⟨rfl, rfl, rfl⟩ | ⟨g, cap, rfl, _⟩
  · exact Src.ofNil _ hk _
  · exact Src.ofSlice _ hk _ _ _ _ h.1 (h.cells rfl) h1

/-- The last elements let go of: the slice is still owned. -/
theorem ownsRow_cut {w : World} {base : Nat} {e : TypeId} {g cap n : Nat} {xs : List Value} (h : w.ownsRow base e 1 (.slice (some ⟨g, 0, none⟩) n cap) n xs) (k : Nat) (hk : k ≤ n) : w.ownsRow base e 1 (.slice (some ⟨g, 0, none⟩) k cap) k (xs.take k) := by
  refine ⟨by rw [List.length_take, h.1]; omega, ?_⟩
  rcases h.2 with ⟨h', _⟩ | ⟨g', cap', cur, h', hb, hg, hnc, hcm, hcs, htake⟩
  · simp at h'
  · simp only [Value.slice.injEq, Option.some.injEq, Addr.mk.injEq, and_true, true_and] at h'
    obtain ⟨rfl, rfl⟩ := h'
    refine Or.inr ⟨g, cap, cur, rfl, hb, hg, by omega, hcm, hcs, ?_⟩
    rw [← htake, List.take_take]
    congr 1
    omega

end Go.Proofs.YtlgoeipgmjcboaaGreatDoor.Me
namespace Go.Proofs.YtlgoeipgmjcboaaGreatDoor
open Go.RowKit

theorem tabs_below {B : Nat} {w w' : World} (h : Below B w w') (hB : 6 ≤ B) (hT : Lib.Utf8Tabs 4 5 w) : Lib.Utf8Tabs 4 5 w' :=
  ⟨fun c hc => (h.cell (p := ⟨4, c, none⟩) (by show 4 < B; omega)).trans (hT.1 c hc),
   fun i hi => ⟨(h.cell (p := ⟨5, 2 * i, none⟩) (by show 5 < B; omega)).trans (hT.2 i hi).1, (h.cell (p := ⟨5, 2 * i + 1, none⟩) (by show 5 < B; omega)).trans (hT.2 i hi).2⟩⟩
theorem tabs_two {w : World} (hT : Lib.Utf8Tabs 4 5 w) : 6 ≤ w.heap.size := by
  have := World.block_lt_of_cell? w _ (hT.2 0 (by omega)).1
  simp at this
  omega
theorem tabs_keep {w w' : World} (h : Below w.heap.size w w') (hT : Lib.Utf8Tabs 4 5 w) : Lib.Utf8Tabs 4 5 w' := tabs_below h (tabs_two hT) hT

/-- Where the reading stands: ahead of it all is well. -/
def RelBad (s : ByteArray) (w wr : World) : Prop :=
  ∃ p : Nat, p ≤ s.size ∧ wr.heap[w.heap.size]? = some (.stringIter s p) ∧ Below w.heap.size w wr ∧ Tx.badL s.data.toList = p + Tx.badL (s.data.toList.drop p)

theorem size_list (s : ByteArray) : s.data.toList.length = s.size := by simp

/-- What bad answers. -/
def badV (s : ByteArray) : Int := if Tx.good s.data.toList then -1 else (Tx.badL s.data.toList : Int)
theorem badV_at {s : ByteArray} {p : Nat} (hp : p < s.size) (he : Tx.badL s.data.toList = p + Tx.badL (s.data.toList.drop p)) (hb : Tx.chr (s.data.toList.drop p) = 0 ∨ Tx.bt (s.data.toList.drop p) 0 = 0) : badV s = (p : Int) := by
  rw [Tx.badL_bad hb] at he
  have := size_list s
  have hg : Tx.good s.data.toList = false := by
    rw [Bool.eq_false_iff, Ne, Tx.good_iff]
    omega
  simp [badV, hg, he]
theorem badV_end {s : ByteArray} (he : Tx.badL s.data.toList = s.size + Tx.badL (s.data.toList.drop s.size)) : badV s = -1 := by
  have h0 : s.data.toList.drop s.size = [] := List.drop_of_length_le (by rw [size_list]; exact Nat.le_refl _)
  rw [h0, Tx.badL_nil] at he
  have := size_list s
  have hg : Tx.good s.data.toList = true := by
    rw [Tx.good_iff]
    omega
  simp [badV, hg]

set_option maxHeartbeats 1000000 in
theorem bad_any (s : ByteArray) (w : World) (_hs : s.size ≤ maxLen) (hT : Lib.Utf8Tabs 4 5 w) :
    Calls Tryz.prog 193 #[.string s] w fun e w' => e = .returned (.int .i64 (badV s)) ∧ Below w.heap.size w w' := by
  unfold maxLen at _hs
  have h2 := tabs_two hT
  go_enter Tryz.func193, Tryz.ntmps193
  go_wp2_with fail
  go_loopw [] (fun wr => RelBad s w wr) (fun wr => s.size - wr.iterPos w.heap.size)
  case atStart => exact ⟨0, Nat.zero_le _, World.iter_heap _ _ _, (Below.refl _ _).alloc (Nat.le_refl _) _, by simp⟩
  case round =>
    obtain ⟨p, hp, hk, hb, he⟩ := hrel
    have HK := Lib.hid hk
    have HE := Lib.hid he
    have hit := iterPos_of hk
    have HI := Lib.hid hit
    clear hk he hit
    rcases Nat.lt_or_ge p s.size with hlt | hge
    · obtain ⟨r, n, hd⟩ : ∃ r n, Utf8.decode s p = (r, n) := ⟨_, _, rfl⟩
      have hnx := fun ty => Lib.run_next_any_at (P := Tryz.prog) wr w.heap.size s p ty HK.out hlt
      simp only [hd] at hnx
      have hdt := Tx.decode_text s p hlt
      have hdw := Tx.decode_tail s p
      rw [hd] at hdt hdw
      have hr31 : r ≤ 2147483647 := by have := decode_le s p; rw [hd] at this; exact this
      have hk' : (wr.iterAt w.heap.size s (p + n)).heap[w.heap.size]? = some (.stringIter s (p + n)) := Lib.iterAt_heap _ _ _ _ _ HK.out
      have hb' : Below w.heap.size w (wr.iterAt w.heap.size s (p + n)) := Lib.below_iterAt hb (Nat.le_refl _) _ _
      have hT' := tabs_below hb' h2 hT
      have hc := Tryz.utf8_DecodeRuneInString (s.extract p s.size) _ hT'
      have hgo : Lib.decodeGo (s.extract p s.size) = (r, n) := by
        unfold Lib.decodeGo
        rw [if_neg (by simp; omega), hdw]
      rw [hgo] at hc
      have HC := Lib.hid hc
      have HK' := Lib.hid hk'
      clear hc hk' hgo hdw
      by_cases hb0 : Tx.chr (s.data.toList.drop p) = 0
      · obtain ⟨rfl, rfl⟩ : r = 65533 ∧ n = 1 := by have := hdt.1 hb0; simpa using this
        clear hdt
        have HB := Lib.hid hb0
        clear hb0
        go_wp2_with fail
        refine HC.out.mono ?_; rintro e w1 ⟨rfl, hb1⟩
        go_wp2_with fail
        go_ret
        exact ⟨by rw [badV_at hlt HE.out (Or.inl HB.out)]; rfl, hb'.trans (hb1.mono hb'.size)⟩
      · obtain ⟨hn, h00, h33⟩ := hdt.2 hb0
        clear hdt
        by_cases hz : Tx.bt (s.data.toList.drop p) 0 = 0
        · obtain rfl : r = 0 := h00.2 hz
          have HB := Lib.hid hz
          clear hz h00 h33 hn hb0
          go_wp2_with fail
          go_ret
          exact ⟨by rw [badV_at hlt HE.out (Or.inr HB.out)]; rfl, hb'⟩
        · have hr0 : r ≠ 0 := fun e => hz (h00.1 e)
          have hle := Tx.chr_le (s.data.toList.drop p)
          have hstep : p + n ≤ s.size ∧ 1 ≤ n ∧ Tx.badL s.data.toList = (p + n) + Tx.badL (s.data.toList.drop (p + n)) := by
            simp only at hn
            have hz1 := size_list s
            rw [List.length_drop] at hle
            refine ⟨by omega, by omega, ?_⟩
            rw [HE.out, Tx.badL_good hb0 hz, List.drop_drop, ← hn]
            omega
          obtain ⟨hs1, hs2, hs3⟩ := hstep
          have HS := Lib.hid hs3
          have hit' := iterPos_of HK'.out
          have HI' := Lib.hid hit'
          clear hit' hs3 hz h00 hle
          by_cases h65 : r = 65533
          · subst h65
            have h3 : n = 3 := by have := h33 rfl; simp only at hn; omega
            subst h3
            clear h33 hn hb0
            go_wp2_with fail
            refine HC.out.mono ?_; rintro e w1 ⟨rfl, hb1⟩
            have hk1 : w1.heap[w.heap.size]? = some (.stringIter s (p + 3)) := by
              rw [hb1.block _ (by have := hb'.size; have := (Array.getElem?_eq_some_iff.1 HK'.out).1; omega)]
              exact HK'.out
            have hit1 := iterPos_of hk1
            have HK1 := Lib.hid hk1
            have HI1 := Lib.hid hit1
            clear hk1 hit1
            go_wp2_with fail
            exact ⟨⟨p + 3, hs1, HK1.out, hb'.trans (hb1.mono hb'.size), HS.out⟩, by rw [HI.out, HI1.out]; omega⟩
          · have hr1 : ((r : Int) == 65533) = false := by rw [beq_eq_false_iff_ne]; omega
            have hr2 : ((r : Int) == 0) = false := by rw [beq_eq_false_iff_ne]; omega
            clear h65 h33 hn hb0 hr0
            go_wp2_with fail
            exact ⟨⟨p + n, hs1, HK'.out, hb', HS.out⟩, by rw [HI.out, HI'.out]; omega⟩
    · obtain rfl : p = s.size := by omega
      have hnx := fun ty => Lib.run_next_end_at (P := Tryz.prog) wr w.heap.size s s.size ty HK.out (by omega)
      go_wp2_with fail
      go_ret
      exact ⟨by rw [badV_end HE.out]; rfl, hb⟩

theorem badV_neg (s : ByteArray) : decide (badV s < 0) = Tx.good s.data.toList := by
  unfold badV
  split
  · rename_i h
    rw [h]
    rfl
  · rename_i h
    simp only [Bool.not_eq_true] at h
    rw [h]
    simp

/-- wire.Good. -/
theorem good_any (s : ByteArray) (w : World) (hs : s.size ≤ maxLen) (hT : Lib.Utf8Tabs 4 5 w) :
    Calls Tryz.prog 136 #[.string s] w fun e w' => e = .returned (.bool (Tx.good s.data.toList)) ∧ Below w.heap.size w w' := by
  have hb := bad_any s w hs hT
  have HB := Lib.hid hb
  have HN := Lib.hid (badV_neg s)
  clear hb
  go_enter Tryz.func136, Tryz.ntmps136
  go_wp2_with fail
  refine HB.out.mono ?_; rintro e w1 ⟨rfl, hb1⟩
  generalize badV s = v at *
  go_wp2_with fail
  go_ret
  exact ⟨by rw [← HN.out]; rfl, hb1⟩




theorem good_is (s : ByteArray) (b : Bool) (w : World) (hs : s.size ≤ maxLen) (hT : Lib.Utf8Tabs 4 5 w) (hb : Tx.good s.data.toList = b) :
    Calls Tryz.prog 136 #[.string s] w fun e w' => e = .returned (.bool b) ∧ Below w.heap.size w w' := by
  have := good_any s w hs hT
  rwa [hb] at this
end Go.Proofs.YtlgoeipgmjcboaaGreatDoor
namespace Go.Proofs.YtlgoeipgmjcboaaGreatDoor
open Go.RowKit Me

def byteV (c : UInt8) : Value := .int .u8 (c.toNat : Int)
def intV (n : Nat) : Value := .int .i64 (n : Int)

def foot (a : Nat) (vb vo : Value) : List Nat := a :: (vb.ownBlock.toList ++ vo.ownBlock.toList)

/-- A writer stands in block a. -/
structure IsW (T : TypeId) (w : World) (a : Nat) (S : WSt) (vb vo : Value) : Prop where
  wf : S.Wf
  cells : w.heap[a]? = some (.cells #[.int .i64 (S.limit : Int), vb, vo, .int .i64 (S.err : Int)] T (0, 0))
  b : w.ownsRow 0 5 1 vb S.bytes.length (S.bytes.map byteV)
  o : w.ownsRow 0 3 1 vo S.opens.length (S.opens.map intV)

theorem cell4 {w : World} {a : Nat} {x0 x1 x2 x3 : Value} {T : TypeId} (h : w.heap[a]? = some (.cells #[x0, x1, x2, x3] T (0, 0))) :
    w.cell? ⟨a, 0, none⟩ = some x0 ∧ w.cell? ⟨a, 1, none⟩ = some x1 ∧ w.cell? ⟨a, 2, none⟩ = some x2 ∧ w.cell? ⟨a, 3, none⟩ = some x3 ∧
    w.frozen? ⟨a, 1, none⟩ = false ∧ w.frozen? ⟨a, 2, none⟩ = false ∧ w.frozen? ⟨a, 3, none⟩ = false := by
  refine ⟨?_, ?_, ?_, ?_, frozen_of_row _ _ _ _ _ h, frozen_of_row _ _ _ _ _ h, frozen_of_row _ _ _ _ _ h⟩ <;> (rw [cell_of_row _ _ _ _ _ _ h]; rfl)
theorem ownsRow_slice {w : World} {base : Nat} {e : TypeId} {size : Nat} {v : Value} {n : Nat} {xs : List Value} (h : w.ownsRow base e size v n xs) :
    ∃ A c, v = .slice A n c ∧ n ≤ c ∧ c ≤ maxLen := by
  rcases ownsRow_form h with ⟨rfl, rfl, _⟩ | ⟨g, cap, rfl, h1, h2, _⟩
  · exact ⟨none, 0, rfl, Nat.le_refl _, by unfold maxLen; omega⟩
  · exact ⟨_, _, rfl, h1, h2⟩

theorem IsW.drewN {T : TypeId} {w : World} {a : Nat} {S : WSt} {vb vo : Value} (h : IsW T w a S vb vo) (k : Nat) : IsW T (w.drewN k) a S vb vo := ⟨h.wf, h.cells, h.b, h.o⟩
theorem wrow {T : TypeId} {w : World} {a : Nat} {S : WSt} {vb vo : Value} (h : IsW T w a S vb vo) (hT : T ≠ 5 ∧ T ≠ 3) : vb.ownBlock ≠ some a ∧ vo.ownBlock ≠ some a ∧ ∀ k, vb.ownBlock = some k → vo.ownBlock ≠ some k :=
  ⟨ownsRow_not h.b h.cells (Ne.symm hT.1), ownsRow_not h.o h.cells (Ne.symm hT.2), ownsRow_kind h.b h.o (by decide)⟩
theorem ownsRow_set {w : World} {base : Nat} {e : TypeId} {size : Nat} {v : Value} {n : Nat} {xs : List Value} (h : w.ownsRow base e size v n xs) {a : Addr} (ha : v.ownBlock ≠ some a.block) (u : Value) : (w.setCell a u).ownsRow base e size v n xs := ownsRow_setCell_other h ha u

/-- A writer goes wrong. -/
theorem IsW.wrong {T : TypeId} {w : World} {a : Nat} {S : WSt} {vb vo : Value} (h : IsW T w a S vb vo) (hT : T ≠ 5 ∧ T ≠ 3) (e : Nat) (he : e ≤ 100) : IsW T (w.setCell ⟨a, 3, none⟩ (.int .i64 (e : Int))) a { S with err := e } vb vo :=
  ⟨⟨h.wf.limit, h.wf.bytes, h.wf.opens, h.wf.many, he⟩, by rw [heap_setCell_same _ _ _ _ _ _ h.cells]; rfl, ownsRow_set h.b (wrow h hT).1 _, ownsRow_set h.o (wrow h hT).2.1 _⟩

set_option maxHeartbeats 400000 in
theorem room_err {T : TypeId} {a : Nat} {S : WSt} {vb vo : Value} {w : World} (h : IsW T w a S vb vo) (n : Int) (he : S.err ≠ 0) :
    Calls Tryz.prog 184 #[.pointer (some ⟨a, 0, none⟩), .int .i64 n] w fun e w' => e = .returned (.bool false) ∧ w = w' := by
  obtain ⟨c0, c1, c2, c3, f1, f2, f3⟩ := cell4 h.cells
  have he' : ((S.err : Int) != 0) = true := by rw [bne_iff_ne]; omega
  clear he h c0 c1 c2 f1 f2 f3
  go_enter Tryz.func184, Tryz.ntmps184
  go_wp2_with fail
  go_ret
  exact ⟨rfl, rfl⟩
set_option maxHeartbeats 400000 in
theorem room_fits {T : TypeId} {a : Nat} {S : WSt} {vb vo : Value} {w : World} (h : IsW T w a S vb vo) (n : Int) (_h0 : 0 ≤ n) (_h1 : n ≤ 9223372036854775807) (he : S.err = 0) (hf : (S.bytes.length : Int) + n ≤ S.limit) :
    Calls Tryz.prog 184 #[.pointer (some ⟨a, 0, none⟩), .int .i64 n] w fun e w' => e = .returned (.bool true) ∧ ∃ k, w.drewN k = w' := by
  obtain ⟨c0, c1, c2, c3, f1, f2, f3⟩ := cell4 h.cells
  obtain ⟨A, c, rfl, hlc, hcm⟩ := ownsRow_slice h.b
  have hl := h.wf.limit
  have hb := h.wf.bytes
  rw [he] at c3
  clear he h c2 f1 f2
  go_enter Tryz.func184, Tryz.ntmps184
  go_wp2_with fail
  go_quiet (fail)
  go_wp2_with fail
  go_ret
  exact ⟨rfl, _, rfl⟩
set_option maxHeartbeats 400000 in
theorem room_full {T : TypeId} {a : Nat} {S : WSt} {vb vo : Value} {w : World} (h : IsW T w a S vb vo) (hT : T ≠ 5 ∧ T ≠ 3) (n : Int) (h0 : 0 ≤ n) (_h1 : n ≤ 9223372036854775807) (he : S.err = 0) (hf : (S.limit : Int) < (S.bytes.length : Int) + n) :
    Calls Tryz.prog 184 #[.pointer (some ⟨a, 0, none⟩), .int .i64 n] w fun e w' => e = .returned (.bool false) ∧ IsW T w' a { S with err := 11 } vb vo ∧ Mods [a] w w' := by
  obtain ⟨c0, c1, c2, c3, f1, f2, f3⟩ := cell4 h.cells
  have hw := fun k => (h.drewN k).wrong hT 11 (by omega)
  have HW := Lib.hid hw
  obtain ⟨A, c, rfl, hlc, hcm⟩ := ownsRow_slice h.b
  have hl := h.wf.limit
  have hb := h.wf.bytes
  rw [he] at c3
  clear he h c2 f1 f2 hw
  go_enter Tryz.func184, Tryz.ntmps184
  go_wp2_with fail
  go_quiet (fail)
  go_wp2_with fail
  go_ret
  exact ⟨rfl, HW.out _, ((Mods.refl _ _).drewN _).setCell (Or.inl (by simp)) _⟩

theorem mem_foot {a k : Nat} {vb vo : Value} : k ∈ foot a vb vo ↔ k = a ∨ vb.ownBlock = some k ∨ vo.ownBlock = some k := by
  simp [foot, Option.mem_toList]
theorem IsW.mods {T : TypeId} {w w' : World} {a : Nat} {S : WSt} {vb vo : Value} {F : List Nat} (h : IsW T w a S vb vo) (hm : Mods F w w') (hd : ∀ k ∈ foot a vb vo, k ∉ F) : IsW T w' a S vb vo :=
  ⟨h.wf, hm.heap h.cells (hd a (mem_foot.2 (Or.inl rfl))), ownsRow_mods h.b hm (fun k hk => hd k (mem_foot.2 (Or.inr (Or.inl hk)))), ownsRow_mods h.o hm (fun k hk => hd k (mem_foot.2 (Or.inr (Or.inr hk))))⟩
theorem IsW.lt {T : TypeId} {w : World} {a : Nat} {S : WSt} {vb vo : Value} (h : IsW T w a S vb vo) : ∀ k ∈ foot a vb vo, k < w.heap.size := by
  intro k hk
  rcases mem_foot.1 hk with rfl | hk | hk
  · exact (Array.getElem?_eq_some_iff.1 h.cells).1
  · exact ownsRow_lt h.b k hk
  · exact ownsRow_lt h.o k hk

def WSt.add (S : WSt) (bs : List UInt8) : WSt := { S with bytes := S.bytes ++ bs }
theorem WSt.Wf.add {S : WSt} (h : S.Wf) (bs : List UInt8) (hf : S.bytes.length + bs.length ≤ S.limit) : (S.add bs).Wf :=
  ⟨h.limit, by simp only [WSt.add, List.length_append]; omega, fun q hq => by have := h.opens q hq; simp only [WSt.add, List.length_append]; omega, by have := h.many; simp only [WSt.add, List.length_append]; omega, h.err⟩

/-- Bytes have been put behind a writer's own. -/
theorem IsW.app {T : TypeId} {W w1 : World} {a : Nat} {S : WSt} {vb vo v' : Value} {m : Nat} {bs : List UInt8} {news : List Value} (h : IsW T W a S vb vo) (hT : T ≠ 5 ∧ T ≠ 3) (hg : W.grownBy w1 vb.ownBlock)
    (hown : w1.ownsRow 0 5 1 v' (S.bytes.length + m) (S.bytes.map byteV ++ news)) (hat : v'.ownBlock = vb.ownBlock ∨ v'.ownBlock = some W.heap.size) (hn : news = bs.map byteV) (hf : S.bytes.length + bs.length ≤ S.limit) :
    IsW T (w1.setCell ⟨a, 1, none⟩ v') a (S.add bs) v' vo ∧ Mods (foot a vb vo) W (w1.setCell ⟨a, 1, none⟩ v') := by
  have hr := wrow h hT
  have ha : w1.heap[a]? = some (.cells #[.int .i64 (S.limit : Int), vb, vo, .int .i64 (S.err : Int)] T (0, 0)) := by
    rw [hg.block a (Array.getElem?_eq_some_iff.1 h.cells).1 (fun e => hr.1 e.symm)]
    exact h.cells
  have hm : m = bs.length := by
    have := hown.1
    simp [hn] at this
    omega
  have hvb : v'.ownBlock ≠ some a := by
    rcases hat with e | e
    · rw [e]; exact hr.1
    · rw [e]
      have := (Array.getElem?_eq_some_iff.1 h.cells).1
      intro e'
      have := Option.some.inj e'
      omega
  refine ⟨⟨h.wf.add bs hf, by rw [heap_setCell_same _ _ _ _ _ _ ha]; rfl, ?_, ?_⟩, ?_⟩
  · have hx := ownsRow_set hown (a := ⟨a, 1, none⟩) hvb v'
    rw [hn, ← List.map_append, hm] at hx
    simpa [WSt.add] using hx
  · refine ownsRow_set (h.o.kept hg ?_) hr.2.1 v'
    by_cases e : vo.ownBlock = none
    · exact Or.inl e
    · refine Or.inr fun e2 => ?_
      obtain ⟨k, hk⟩ := Option.ne_none_iff_exists'.1 e
      exact hr.2.2 k (by rw [← e2]; exact hk) hk
  · exact ((Mods.refl _ _).grown hg (fun b hb => Or.inl (mem_foot.2 (Or.inr (Or.inl hb))))).setCell (p := ⟨a, 1, none⟩) (Or.inl (mem_foot.2 (Or.inl rfl))) _

theorem info5 : (Tryz.prog.info? 5).map (fun i => (i.zero, i.size, i.bytes)) = some (some (.int .u8 0), 1, 1) := by kernel_rfl
theorem info3 : (Tryz.prog.info? 3).map (fun i => (i.zero, i.size, i.bytes)) = some (some (.int .i64 0), 1, 8) := by kernel_rfl
theorem bytes_one (l : List UInt8) : ∀ u ∈ l.map byteV, u.oneCell' = true := by
  intro u hu
  obtain ⟨_, _, rfl⟩ := List.mem_map.1 hu
  rfl

/-- Where a number is being written. -/
def RelPut (T : TypeId) (a : Nat) (S : WSt) (vb vo : Value) (n wd : Nat) (w : World) (i v : Value) (wr : World) : Prop :=
  ∃ (j q : Nat) (vb' : Value), j ≤ wd ∧ i = .int .i64 j ∧ v = .int .u64 (q : Int) ∧ q = n / 256 ^ j ∧ IsW T wr a (S.add (le n j)) vb' vo ∧ Mods (foot a vb vo) w wr ∧ (vb'.ownBlock = vb.ownBlock ∨ ∃ k, vb'.ownBlock = some k ∧ w.heap.size ≤ k)


theorem le_snoc (n j : Nat) : le n (j + 1) = le n j ++ [UInt8.ofNat (n / 256 ^ j)] := by
  induction j generalizing n with
  | zero => simp [le]
  | succ j ih =>
    rw [le, ih, le]
    simp only [List.cons_append, Nat.div_div_eq_div_mul]
    rw [← Nat.pow_succ']
theorem byteV_mod (q : Nat) : byteV (UInt8.ofNat q) = .int .u8 ((q : Int) % 256) := by
  simp [byteV]
theorem add_add (S : WSt) (b c : List UInt8) : (S.add b).add c = S.add (b ++ c) := by simp [WSt.add]
theorem relPut_step {T : TypeId} {a : Nat} {S : WSt} {vb vo vb' v' : Value} {n wd j q : Nat} {w wr w1 : World} {i y : Int} (hT : T ≠ 5 ∧ T ≠ 3) (hj : j < wd) (hi : i = (j : Int) + 1) (hy : y = (q : Int) / 256) (hq : q = n / 256 ^ j)
    (hw : IsW T wr a (S.add (le n j)) vb' vo) (hm : Mods (foot a vb vo) w wr) (hat : vb'.ownBlock = vb.ownBlock ∨ ∃ k, vb'.ownBlock = some k ∧ w.heap.size ≤ k)
    (hf : S.bytes.length + wd ≤ S.limit) (o : Obj) (hown : w1.ownsRow 0 5 1 v' ((S.add (le n j)).bytes.length + 1) ((S.add (le n j)).bytes.map byteV ++ [.int .u8 ((q : Int) % 256)]))
    (hg : (wr.alloc o).grownBy w1 vb'.ownBlock) (h2 : v'.ownBlock = vb'.ownBlock ∨ v'.ownBlock = some (wr.heap.size + 1)) :
    RelPut T a S vb vo n wd w (.int .i64 i) (.int .u64 y) (w1.setCell ⟨a, 1, none⟩ v') := by
  have hw' : IsW T (wr.alloc o) a (S.add (le n j)) vb' vo := hw.mods ((Mods.refl [] _).alloc o) (fun _ _ h => by cases h)
  have hbl : (S.add (le n j)).bytes.length = S.bytes.length + j := by simp [WSt.add, le_length]
  have h3 := hw'.app hT hg hown (by simpa using h2) (bs := [UInt8.ofNat q]) (by simp [byteV_mod]) (by rw [hbl]; simp only [List.length_cons, List.length_nil, WSt.add]; omega)
  rw [add_add, hq, ← le_snoc] at h3
  refine ⟨j + 1, q / 256, v', by omega, by rw [hi]; congr 1, by rw [hy]; congr 1, by rw [hq, Nat.div_div_eq_div_mul, ← Nat.pow_succ], h3.1, ?_, ?_⟩
  · refine (hm.alloc o).trans h3.2 (fun b hb => ?_)
    rcases mem_foot.1 hb with rfl | hb | hb
    · exact Or.inl (mem_foot.2 (Or.inl rfl))
    · rcases hat with e | ⟨k, e, hk⟩
      · exact Or.inl (mem_foot.2 (Or.inr (Or.inl (by rw [← e]; exact hb))))
      · rw [e] at hb
        obtain rfl := Option.some.inj hb
        exact Or.inr hk
    · exact Or.inl (mem_foot.2 (Or.inr (Or.inr hb)))
  · rcases h2 with e | e
    · rw [e]; exact hat
    · exact Or.inr ⟨_, e, by have := hm.size; omega⟩
/-- The cells that the walk reads behind an append. -/
theorem behind_app {T : TypeId} {w w1 : World} {a : Nat} {S : WSt} {vb vo : Value} (h : IsW T w a S vb vo) (hT : T ≠ 5 ∧ T ≠ 3) {o : Obj} (hg : (w.alloc o).grownBy w1 vb.ownBlock) :
    w1.cell? ⟨a, 1, none⟩ = some vb ∧ w1.frozen? ⟨a, 1, none⟩ = false ∧ w1.cell? ⟨a, 2, none⟩ = some vo ∧ w1.frozen? ⟨a, 2, none⟩ = false := by
  have hw' : IsW T (w.alloc o) a S vb vo := h.mods ((Mods.refl [] _).alloc o) (fun _ _ h => by cases h)
  have hr := wrow hw' hT
  have ha : w1.heap[a]? = some (.cells #[.int .i64 (S.limit : Int), vb, vo, .int .i64 (S.err : Int)] T (0, 0)) := by
    rw [hg.block a (Array.getElem?_eq_some_iff.1 hw'.cells).1 (fun e => hr.1 e.symm)]
    exact hw'.cells
  obtain ⟨_, c1, c2, _, f1, f2, _⟩ := cell4 ha
  exact ⟨c1, f1, c2, f2⟩
theorem own_ctor {w : World} {base : Nat} {e : TypeId} {size : Nat} {v : Value} {n : Nat} {xs : List Value} (h : w.ownsRow base e size v n xs) : ∃ A c, v = .slice A n c := by
  obtain ⟨A, c, h, _⟩ := ownsRow_slice h
  exact ⟨A, c, h⟩

/-- What a call of a writer leaves. -/
def WPost (T : TypeId) (w : World) (a : Nat) (vb vo : Value) (S' : WSt) (w' : World) : Prop :=
  ∃ vb' vo', IsW T w' a S' vb' vo' ∧ Mods (foot a vb vo) w w' ∧ ∀ k ∈ foot a vb' vo', k ∈ foot a vb vo ∨ w.heap.size ≤ k
theorem WPost.of_b {T : TypeId} {w w' : World} {a : Nat} {vb vo vb' : Value} {S' : WSt} (h : IsW T w' a S' vb' vo) (hm : Mods (foot a vb vo) w w') (hat : vb'.ownBlock = vb.ownBlock ∨ ∃ k, vb'.ownBlock = some k ∧ w.heap.size ≤ k) : WPost T w a vb vo S' w' := by
  refine ⟨vb', vo, h, hm, fun k hk => ?_⟩
  rcases mem_foot.1 hk with rfl | hk | hk
  · exact Or.inl (mem_foot.2 (Or.inl rfl))
  · rcases hat with e | ⟨j, e, hj⟩
    · exact Or.inl (mem_foot.2 (Or.inr (Or.inl (by rw [← e]; exact hk))))
    · rw [e] at hk
      obtain rfl := Option.some.inj hk
      exact Or.inr hj
  · exact Or.inl (mem_foot.2 (Or.inr (Or.inr hk)))
theorem WPost.same {T : TypeId} {w w' : World} {a : Nat} {vb vo : Value} {S' : WSt} (h : IsW T w' a S' vb vo) {F : List Nat} (hm : Mods F w w') (hF : ∀ k ∈ F, k ∈ foot a vb vo) : WPost T w a vb vo S' w' :=
  ⟨vb, vo, h, hm.mono (fun k hk => Or.inl (hF k hk)), fun _ hk => Or.inl hk⟩

set_option maxRecDepth 100000 in
set_option maxHeartbeats 400000 in
theorem put8_fits {a : Nat} {S : WSt} {vb vo : Value} {w : World} (h : IsW 195 w a S vb vo) (n : Nat) (hn : IntKind.u64.wrap (n : Int) = (n : Int)) (he : S.err = 0) (hf : S.bytes.length + 1 ≤ S.limit) :
    Calls Tryz.prog 116 #[.pointer (some ⟨a, 0, none⟩), .int .u8 n, .int .i64 1] w fun e w' => e = .returned (.tuple #[]) ∧ WPost 195 w a vb vo (S.add (le n 1)) w' := by
  have H := Lib.hid h
  have HE := Lib.hid he
  have HF := Lib.hid hf
  clear h he hf
  go_enter Tryz.func116, Tryz.ntmps116
  go_wp2_with fail
  refine (room_fits H.out 1 (by omega) (by omega) HE.out (by have := HF.out; omega)).mono ?_; rintro e w1 ⟨rfl, k, rfl⟩
  go_wp2_with fail
  go_loopw [14, 6] (fun i v wr => RelPut 195 a S vb vo n 1 w i v wr) (fun i _ _ => 1 - (intOf i).toNat)
  case atStart => exact ⟨0, n, vb, by omega, rfl, rfl, by simp, by have := H.out.drewN k; simpa [WSt.add, le] using this, (Mods.refl _ _).drewN _, Or.inl rfl⟩
  case round =>
    obtain ⟨j, q, vb', hj, rfl, rfl, hq, hw, hm, hat⟩ := hrel
    have HW := Lib.hid hw
    have HM := Lib.hid hm
    have HA := Lib.hid hat
    have HQ := Lib.hid hq
    obtain ⟨c0, c1, c2, c3, f1, f2, f3⟩ := cell4 hw.cells
    clear hw hm hat hq c0 c2 c3 f2 f3
    obtain ⟨i0, hi, hz0, hz1, hz2⟩ := info_parts info5
    have hsz : (S.add (le n j)).bytes.length + 1 ≤ 100000000 := by
      have h1 := HW.out.wf.bytes
      have h2 := HW.out.wf.limit
      simp only [WSt.add] at h1 h2 ⊢
      omega
    rcases Nat.lt_or_ge j 1 with hlt | hge
    · go_wp2_with (at_builtin; go_must (refine wpList_app _ rfl _ _ 43 43 rfl 0 5 i0 (.int .u8 0) 1 1 Tryz.underlying43 hi hz0 hz1 hz2 rfl _ _ _ rfl (HW.out.b.alloc _) _ 1 [.int .u8 ((q : Int) % 256)] rfl ?c1 ?c2 ?c3 ?c4 ?_))
      case c1 => exact src_one Tryz.underlying43 _ _ _ rfl
      case c2 => unfold maxLen; omega
      case c3 => omega
      case c4 => exact Nat.zero_le _
      intro v' w1 hown hgrow hat2
      obtain ⟨d1, g1, _, _⟩ := behind_app HW.out (by decide) hgrow
      obtain ⟨A', c', rfl⟩ := own_ctor hown
      have HR := Lib.hid (relPut_step (wd := 1) (by decide) hlt rfl rfl HQ.out HW.out HM.out HA.out HF.out _ hown hgrow hat2)
      clear hown hgrow hat2 c1 f1
      go_wp2_with fail
      exact ⟨HR.out, by simp [intOf]; omega⟩
    · obtain rfl : j = 1 := by omega
      go_wp2_with fail
      go_end0
      exact ⟨rfl, WPost.of_b HW.out HM.out HA.out⟩
set_option maxHeartbeats 400000 in
theorem put8_err {a : Nat} {S : WSt} {vb vo : Value} {w : World} (h : IsW 195 w a S vb vo) (n : Nat) (he : S.err ≠ 0) :
    Calls Tryz.prog 116 #[.pointer (some ⟨a, 0, none⟩), .int .u8 n, .int .i64 1] w fun e w' => e = .returned (.tuple #[]) ∧ w = w' := by
  have H := Lib.hid h
  have HE := Lib.hid he
  clear h he
  go_enter Tryz.func116, Tryz.ntmps116
  go_wp2_with fail
  refine (room_err H.out 1 HE.out).mono ?_; rintro e w1 ⟨rfl, rfl⟩
  go_wp2_with fail
  refine bodyPost_ret (results_none rfl _ _ _) rfl ?_
  exact ⟨rfl, rfl⟩
set_option maxHeartbeats 400000 in
theorem put8_full {a : Nat} {S : WSt} {vb vo : Value} {w : World} (h : IsW 195 w a S vb vo) (n : Nat) (he : S.err = 0) (hf : S.limit < S.bytes.length + 1) :
    Calls Tryz.prog 116 #[.pointer (some ⟨a, 0, none⟩), .int .u8 n, .int .i64 1] w fun e w' => e = .returned (.tuple #[]) ∧ IsW 195 w' a { S with err := 11 } vb vo ∧ Mods [a] w w' := by
  have H := Lib.hid h
  have HE := Lib.hid he
  have HF := Lib.hid hf
  clear h he hf
  go_enter Tryz.func116, Tryz.ntmps116
  go_wp2_with fail
  refine (room_full H.out (by decide) 1 (by omega) (by omega) HE.out (by have := HF.out; omega)).mono ?_; rintro e w1 ⟨rfl, hw, hm⟩
  have HW := Lib.hid hw
  have HM := Lib.hid hm
  clear hw hm
  go_wp2_with fail
  refine bodyPost_ret (results_none rfl _ _ _) rfl ?_
  exact ⟨rfl, HW.out, HM.out⟩
theorem put8_any {a : Nat} {S : WSt} {vb vo : Value} {w : World} (h : IsW 195 w a S vb vo) (n : Nat) (hn : IntKind.u64.wrap (n : Int) = (n : Int)) :
    Calls Tryz.prog 116 #[.pointer (some ⟨a, 0, none⟩), .int .u8 n, .int .i64 1] w fun e w' => e = .returned (.tuple #[]) ∧ WPost 195 w a vb vo (S.put (le n 1)) w' := by
  by_cases he : S.err = 0
  · by_cases hf : S.limit < S.bytes.length + 1
    · rw [WSt.put_full _ he (by rw [le_length]; exact hf)]
      exact (put8_full h n he hf).mono fun _ _ ⟨h1, h2, h3⟩ => ⟨h1, WPost.same h2 h3 (by simp [foot])⟩
    · rw [WSt.put_fits _ he (by rw [le_length]; exact hf)]
      exact put8_fits h n hn he (by omega)
  · rw [WSt.put_err _ he]
    refine (put8_err h n he).mono ?_
    rintro _ _ ⟨h1, rfl⟩
    exact ⟨h1, WPost.same h (Mods.refl [] _) (by simp)⟩

set_option maxRecDepth 100000 in
set_option maxHeartbeats 400000 in
theorem put16_fits {a : Nat} {S : WSt} {vb vo : Value} {w : World} (h : IsW 195 w a S vb vo) (n : Nat) (hn : IntKind.u64.wrap (n : Int) = (n : Int)) (he : S.err = 0) (hf : S.bytes.length + 2 ≤ S.limit) :
    Calls Tryz.prog 117 #[.pointer (some ⟨a, 0, none⟩), .int .u16 n, .int .i64 2] w fun e w' => e = .returned (.tuple #[]) ∧ WPost 195 w a vb vo (S.add (le n 2)) w' := by
  have H := Lib.hid h
  have HE := Lib.hid he
  have HF := Lib.hid hf
  clear h he hf
  go_enter Tryz.func117, Tryz.ntmps117
  go_wp2_with fail
  refine (room_fits H.out 2 (by omega) (by omega) HE.out (by have := HF.out; omega)).mono ?_; rintro e w1 ⟨rfl, k, rfl⟩
  go_wp2_with fail
  go_loopw [14, 6] (fun i v wr => RelPut 195 a S vb vo n 2 w i v wr) (fun i _ _ => 2 - (intOf i).toNat)
  case atStart => exact ⟨0, n, vb, by omega, rfl, rfl, by simp, by have := H.out.drewN k; simpa [WSt.add, le] using this, (Mods.refl _ _).drewN _, Or.inl rfl⟩
  case round =>
    obtain ⟨j, q, vb', hj, rfl, rfl, hq, hw, hm, hat⟩ := hrel
    have HW := Lib.hid hw
    have HM := Lib.hid hm
    have HA := Lib.hid hat
    have HQ := Lib.hid hq
    obtain ⟨c0, c1, c2, c3, f1, f2, f3⟩ := cell4 hw.cells
    clear hw hm hat hq c0 c2 c3 f2 f3
    obtain ⟨i0, hi, hz0, hz1, hz2⟩ := info_parts info5
    have hsz : (S.add (le n j)).bytes.length + 1 ≤ 100000000 := by
      have h1 := HW.out.wf.bytes
      have h2 := HW.out.wf.limit
      simp only [WSt.add] at h1 h2 ⊢
      omega
    rcases Nat.lt_or_ge j 2 with hlt | hge
    · go_wp2_with (at_builtin; go_must (refine wpList_app _ rfl _ _ 43 43 rfl 0 5 i0 (.int .u8 0) 1 1 Tryz.underlying43 hi hz0 hz1 hz2 rfl _ _ _ rfl (HW.out.b.alloc _) _ 1 [.int .u8 ((q : Int) % 256)] rfl ?c1 ?c2 ?c3 ?c4 ?_))
      case c1 => exact src_one Tryz.underlying43 _ _ _ rfl
      case c2 => unfold maxLen; omega
      case c3 => omega
      case c4 => exact Nat.zero_le _
      intro v' w1 hown hgrow hat2
      obtain ⟨d1, g1, _, _⟩ := behind_app HW.out (by decide) hgrow
      obtain ⟨A', c', rfl⟩ := own_ctor hown
      have HR := Lib.hid (relPut_step (wd := 2) (by decide) hlt rfl rfl HQ.out HW.out HM.out HA.out HF.out _ hown hgrow hat2)
      clear hown hgrow hat2 c1 f1
      go_wp2_with fail
      exact ⟨HR.out, by simp [intOf]; omega⟩
    · obtain rfl : j = 2 := by omega
      go_wp2_with fail
      go_end0
      exact ⟨rfl, WPost.of_b HW.out HM.out HA.out⟩
set_option maxHeartbeats 400000 in
theorem put16_err {a : Nat} {S : WSt} {vb vo : Value} {w : World} (h : IsW 195 w a S vb vo) (n : Nat) (he : S.err ≠ 0) :
    Calls Tryz.prog 117 #[.pointer (some ⟨a, 0, none⟩), .int .u16 n, .int .i64 2] w fun e w' => e = .returned (.tuple #[]) ∧ w = w' := by
  have H := Lib.hid h
  have HE := Lib.hid he
  clear h he
  go_enter Tryz.func117, Tryz.ntmps117
  go_wp2_with fail
  refine (room_err H.out 2 HE.out).mono ?_; rintro e w1 ⟨rfl, rfl⟩
  go_wp2_with fail
  refine bodyPost_ret (results_none rfl _ _ _) rfl ?_
  exact ⟨rfl, rfl⟩
set_option maxHeartbeats 400000 in
theorem put16_full {a : Nat} {S : WSt} {vb vo : Value} {w : World} (h : IsW 195 w a S vb vo) (n : Nat) (he : S.err = 0) (hf : S.limit < S.bytes.length + 2) :
    Calls Tryz.prog 117 #[.pointer (some ⟨a, 0, none⟩), .int .u16 n, .int .i64 2] w fun e w' => e = .returned (.tuple #[]) ∧ IsW 195 w' a { S with err := 11 } vb vo ∧ Mods [a] w w' := by
  have H := Lib.hid h
  have HE := Lib.hid he
  have HF := Lib.hid hf
  clear h he hf
  go_enter Tryz.func117, Tryz.ntmps117
  go_wp2_with fail
  refine (room_full H.out (by decide) 2 (by omega) (by omega) HE.out (by have := HF.out; omega)).mono ?_; rintro e w1 ⟨rfl, hw, hm⟩
  have HW := Lib.hid hw
  have HM := Lib.hid hm
  clear hw hm
  go_wp2_with fail
  refine bodyPost_ret (results_none rfl _ _ _) rfl ?_
  exact ⟨rfl, HW.out, HM.out⟩
theorem put16_any {a : Nat} {S : WSt} {vb vo : Value} {w : World} (h : IsW 195 w a S vb vo) (n : Nat) (hn : IntKind.u64.wrap (n : Int) = (n : Int)) :
    Calls Tryz.prog 117 #[.pointer (some ⟨a, 0, none⟩), .int .u16 n, .int .i64 2] w fun e w' => e = .returned (.tuple #[]) ∧ WPost 195 w a vb vo (S.put (le n 2)) w' := by
  by_cases he : S.err = 0
  · by_cases hf : S.limit < S.bytes.length + 2
    · rw [WSt.put_full _ he (by rw [le_length]; exact hf)]
      exact (put16_full h n he hf).mono fun _ _ ⟨h1, h2, h3⟩ => ⟨h1, WPost.same h2 h3 (by simp [foot])⟩
    · rw [WSt.put_fits _ he (by rw [le_length]; exact hf)]
      exact put16_fits h n hn he (by omega)
  · rw [WSt.put_err _ he]
    refine (put16_err h n he).mono ?_
    rintro _ _ ⟨h1, rfl⟩
    exact ⟨h1, WPost.same h (Mods.refl [] _) (by simp)⟩

set_option maxRecDepth 100000 in
set_option maxHeartbeats 400000 in
theorem put32_fits {a : Nat} {S : WSt} {vb vo : Value} {w : World} (h : IsW 195 w a S vb vo) (n : Nat) (hn : IntKind.u64.wrap (n : Int) = (n : Int)) (he : S.err = 0) (hf : S.bytes.length + 4 ≤ S.limit) :
    Calls Tryz.prog 115 #[.pointer (some ⟨a, 0, none⟩), .int .u32 n, .int .i64 4] w fun e w' => e = .returned (.tuple #[]) ∧ WPost 195 w a vb vo (S.add (le n 4)) w' := by
  have H := Lib.hid h
  have HE := Lib.hid he
  have HF := Lib.hid hf
  clear h he hf
  go_enter Tryz.func115, Tryz.ntmps115
  go_wp2_with fail
  refine (room_fits H.out 4 (by omega) (by omega) HE.out (by have := HF.out; omega)).mono ?_; rintro e w1 ⟨rfl, k, rfl⟩
  go_wp2_with fail
  go_loopw [14, 6] (fun i v wr => RelPut 195 a S vb vo n 4 w i v wr) (fun i _ _ => 4 - (intOf i).toNat)
  case atStart => exact ⟨0, n, vb, by omega, rfl, rfl, by simp, by have := H.out.drewN k; simpa [WSt.add, le] using this, (Mods.refl _ _).drewN _, Or.inl rfl⟩
  case round =>
    obtain ⟨j, q, vb', hj, rfl, rfl, hq, hw, hm, hat⟩ := hrel
    have HW := Lib.hid hw
    have HM := Lib.hid hm
    have HA := Lib.hid hat
    have HQ := Lib.hid hq
    obtain ⟨c0, c1, c2, c3, f1, f2, f3⟩ := cell4 hw.cells
    clear hw hm hat hq c0 c2 c3 f2 f3
    obtain ⟨i0, hi, hz0, hz1, hz2⟩ := info_parts info5
    have hsz : (S.add (le n j)).bytes.length + 1 ≤ 100000000 := by
      have h1 := HW.out.wf.bytes
      have h2 := HW.out.wf.limit
      simp only [WSt.add] at h1 h2 ⊢
      omega
    rcases Nat.lt_or_ge j 4 with hlt | hge
    · go_wp2_with (at_builtin; go_must (refine wpList_app _ rfl _ _ 43 43 rfl 0 5 i0 (.int .u8 0) 1 1 Tryz.underlying43 hi hz0 hz1 hz2 rfl _ _ _ rfl (HW.out.b.alloc _) _ 1 [.int .u8 ((q : Int) % 256)] rfl ?c1 ?c2 ?c3 ?c4 ?_))
      case c1 => exact src_one Tryz.underlying43 _ _ _ rfl
      case c2 => unfold maxLen; omega
      case c3 => omega
      case c4 => exact Nat.zero_le _
      intro v' w1 hown hgrow hat2
      obtain ⟨d1, g1, _, _⟩ := behind_app HW.out (by decide) hgrow
      obtain ⟨A', c', rfl⟩ := own_ctor hown
      have HR := Lib.hid (relPut_step (wd := 4) (by decide) hlt rfl rfl HQ.out HW.out HM.out HA.out HF.out _ hown hgrow hat2)
      clear hown hgrow hat2 c1 f1
      go_wp2_with fail
      exact ⟨HR.out, by simp [intOf]; omega⟩
    · obtain rfl : j = 4 := by omega
      go_wp2_with fail
      go_end0
      exact ⟨rfl, WPost.of_b HW.out HM.out HA.out⟩
set_option maxHeartbeats 400000 in
theorem put32_err {a : Nat} {S : WSt} {vb vo : Value} {w : World} (h : IsW 195 w a S vb vo) (n : Nat) (he : S.err ≠ 0) :
    Calls Tryz.prog 115 #[.pointer (some ⟨a, 0, none⟩), .int .u32 n, .int .i64 4] w fun e w' => e = .returned (.tuple #[]) ∧ w = w' := by
  have H := Lib.hid h
  have HE := Lib.hid he
  clear h he
  go_enter Tryz.func115, Tryz.ntmps115
  go_wp2_with fail
  refine (room_err H.out 4 HE.out).mono ?_; rintro e w1 ⟨rfl, rfl⟩
  go_wp2_with fail
  refine bodyPost_ret (results_none rfl _ _ _) rfl ?_
  exact ⟨rfl, rfl⟩
set_option maxHeartbeats 400000 in
theorem put32_full {a : Nat} {S : WSt} {vb vo : Value} {w : World} (h : IsW 195 w a S vb vo) (n : Nat) (he : S.err = 0) (hf : S.limit < S.bytes.length + 4) :
    Calls Tryz.prog 115 #[.pointer (some ⟨a, 0, none⟩), .int .u32 n, .int .i64 4] w fun e w' => e = .returned (.tuple #[]) ∧ IsW 195 w' a { S with err := 11 } vb vo ∧ Mods [a] w w' := by
  have H := Lib.hid h
  have HE := Lib.hid he
  have HF := Lib.hid hf
  clear h he hf
  go_enter Tryz.func115, Tryz.ntmps115
  go_wp2_with fail
  refine (room_full H.out (by decide) 4 (by omega) (by omega) HE.out (by have := HF.out; omega)).mono ?_; rintro e w1 ⟨rfl, hw, hm⟩
  have HW := Lib.hid hw
  have HM := Lib.hid hm
  clear hw hm
  go_wp2_with fail
  refine bodyPost_ret (results_none rfl _ _ _) rfl ?_
  exact ⟨rfl, HW.out, HM.out⟩
theorem put32_any {a : Nat} {S : WSt} {vb vo : Value} {w : World} (h : IsW 195 w a S vb vo) (n : Nat) (hn : IntKind.u64.wrap (n : Int) = (n : Int)) :
    Calls Tryz.prog 115 #[.pointer (some ⟨a, 0, none⟩), .int .u32 n, .int .i64 4] w fun e w' => e = .returned (.tuple #[]) ∧ WPost 195 w a vb vo (S.put (le n 4)) w' := by
  by_cases he : S.err = 0
  · by_cases hf : S.limit < S.bytes.length + 4
    · rw [WSt.put_full _ he (by rw [le_length]; exact hf)]
      exact (put32_full h n he hf).mono fun _ _ ⟨h1, h2, h3⟩ => ⟨h1, WPost.same h2 h3 (by simp [foot])⟩
    · rw [WSt.put_fits _ he (by rw [le_length]; exact hf)]
      exact put32_fits h n hn he (by omega)
  · rw [WSt.put_err _ he]
    refine (put32_err h n he).mono ?_
    rintro _ _ ⟨h1, rfl⟩
    exact ⟨h1, WPost.same h (Mods.refl [] _) (by simp)⟩

set_option maxRecDepth 100000 in
set_option maxHeartbeats 400000 in
theorem put64_fits {a : Nat} {S : WSt} {vb vo : Value} {w : World} (h : IsW 195 w a S vb vo) (n : Nat) (_hn : IntKind.u64.wrap (n : Int) = (n : Int)) (he : S.err = 0) (hf : S.bytes.length + 8 ≤ S.limit) :
    Calls Tryz.prog 204 #[.pointer (some ⟨a, 0, none⟩), .int .u64 n, .int .i64 8] w fun e w' => e = .returned (.tuple #[]) ∧ WPost 195 w a vb vo (S.add (le n 8)) w' := by
  have H := Lib.hid h
  have HE := Lib.hid he
  have HF := Lib.hid hf
  clear h he hf
  go_enter Tryz.func204, Tryz.ntmps204
  go_wp2_with fail
  refine (room_fits H.out 8 (by omega) (by omega) HE.out (by have := HF.out; omega)).mono ?_; rintro e w1 ⟨rfl, k, rfl⟩
  go_wp2_with fail
  go_loopw [13, 6] (fun i v wr => RelPut 195 a S vb vo n 8 w i v wr) (fun i _ _ => 8 - (intOf i).toNat)
  case atStart => exact ⟨0, n, vb, by omega, rfl, rfl, by simp, by have := H.out.drewN k; simpa [WSt.add, le] using this, (Mods.refl _ _).drewN _, Or.inl rfl⟩
  case round =>
    obtain ⟨j, q, vb', hj, rfl, rfl, hq, hw, hm, hat⟩ := hrel
    have HW := Lib.hid hw
    have HM := Lib.hid hm
    have HA := Lib.hid hat
    have HQ := Lib.hid hq
    obtain ⟨c0, c1, c2, c3, f1, f2, f3⟩ := cell4 hw.cells
    clear hw hm hat hq c0 c2 c3 f2 f3
    obtain ⟨i0, hi, hz0, hz1, hz2⟩ := info_parts info5
    have hsz : (S.add (le n j)).bytes.length + 1 ≤ 100000000 := by
      have h1 := HW.out.wf.bytes
      have h2 := HW.out.wf.limit
      simp only [WSt.add] at h1 h2 ⊢
      omega
    rcases Nat.lt_or_ge j 8 with hlt | hge
    · go_wp2_with (at_builtin; go_must (refine wpList_app _ rfl _ _ 43 43 rfl 0 5 i0 (.int .u8 0) 1 1 Tryz.underlying43 hi hz0 hz1 hz2 rfl _ _ _ rfl (HW.out.b.alloc _) _ 1 [.int .u8 ((q : Int) % 256)] rfl ?c1 ?c2 ?c3 ?c4 ?_))
      case c1 => exact src_one Tryz.underlying43 _ _ _ rfl
      case c2 => unfold maxLen; omega
      case c3 => omega
      case c4 => exact Nat.zero_le _
      intro v' w1 hown hgrow hat2
      obtain ⟨d1, g1, _, _⟩ := behind_app HW.out (by decide) hgrow
      obtain ⟨A', c', rfl⟩ := own_ctor hown
      have HR := Lib.hid (relPut_step (wd := 8) (by decide) hlt rfl rfl HQ.out HW.out HM.out HA.out HF.out _ hown hgrow hat2)
      clear hown hgrow hat2 c1 f1
      go_wp2_with fail
      exact ⟨HR.out, by simp [intOf]; omega⟩
    · obtain rfl : j = 8 := by omega
      go_wp2_with fail
      go_end0
      exact ⟨rfl, WPost.of_b HW.out HM.out HA.out⟩
set_option maxHeartbeats 400000 in
theorem put64_err {a : Nat} {S : WSt} {vb vo : Value} {w : World} (h : IsW 195 w a S vb vo) (n : Nat) (he : S.err ≠ 0) :
    Calls Tryz.prog 204 #[.pointer (some ⟨a, 0, none⟩), .int .u64 n, .int .i64 8] w fun e w' => e = .returned (.tuple #[]) ∧ w = w' := by
  have H := Lib.hid h
  have HE := Lib.hid he
  clear h he
  go_enter Tryz.func204, Tryz.ntmps204
  go_wp2_with fail
  refine (room_err H.out 8 HE.out).mono ?_; rintro e w1 ⟨rfl, rfl⟩
  go_wp2_with fail
  refine bodyPost_ret (results_none rfl _ _ _) rfl ?_
  exact ⟨rfl, rfl⟩
set_option maxHeartbeats 400000 in
theorem put64_full {a : Nat} {S : WSt} {vb vo : Value} {w : World} (h : IsW 195 w a S vb vo) (n : Nat) (he : S.err = 0) (hf : S.limit < S.bytes.length + 8) :
    Calls Tryz.prog 204 #[.pointer (some ⟨a, 0, none⟩), .int .u64 n, .int .i64 8] w fun e w' => e = .returned (.tuple #[]) ∧ IsW 195 w' a { S with err := 11 } vb vo ∧ Mods [a] w w' := by
  have H := Lib.hid h
  have HE := Lib.hid he
  have HF := Lib.hid hf
  clear h he hf
  go_enter Tryz.func204, Tryz.ntmps204
  go_wp2_with fail
  refine (room_full H.out (by decide) 8 (by omega) (by omega) HE.out (by have := HF.out; omega)).mono ?_; rintro e w1 ⟨rfl, hw, hm⟩
  have HW := Lib.hid hw
  have HM := Lib.hid hm
  clear hw hm
  go_wp2_with fail
  refine bodyPost_ret (results_none rfl _ _ _) rfl ?_
  exact ⟨rfl, HW.out, HM.out⟩
theorem put64_any {a : Nat} {S : WSt} {vb vo : Value} {w : World} (h : IsW 195 w a S vb vo) (n : Nat) (hn : IntKind.u64.wrap (n : Int) = (n : Int)) :
    Calls Tryz.prog 204 #[.pointer (some ⟨a, 0, none⟩), .int .u64 n, .int .i64 8] w fun e w' => e = .returned (.tuple #[]) ∧ WPost 195 w a vb vo (S.put (le n 8)) w' := by
  by_cases he : S.err = 0
  · by_cases hf : S.limit < S.bytes.length + 8
    · rw [WSt.put_full _ he (by rw [le_length]; exact hf)]
      exact (put64_full h n he hf).mono fun _ _ ⟨h1, h2, h3⟩ => ⟨h1, WPost.same h2 h3 (by simp [foot])⟩
    · rw [WSt.put_fits _ he (by rw [le_length]; exact hf)]
      exact put64_fits h n hn he (by omega)
  · rw [WSt.put_err _ he]
    refine (put64_err h n he).mono ?_
    rintro _ _ ⟨h1, rfl⟩
    exact ⟨h1, WPost.same h (Mods.refl [] _) (by simp)⟩
end Go.Proofs.YtlgoeipgmjcboaaGreatDoor
