/- What parts two sorted lists, said plainly: by merging them, and by looking each entry up in the other list and sorting what is told. | The order of paths: a strict order, and paths that compare as equal are one. | What a machine has drawn is never less behind a step than ahead of it; so behind a call. Over any program. | slices.SortFunc of this program, laid by the shelf: no walk. | How dump.diff compares two changes; the worlds that a sort passes through. | slices.SortFunc upon a row of changes that the caller owns. -/
import Derived.Lib.Hide
import Derived.Test.YtmcekhgmmocajaaGreatDoorOf3
import Derived.Fence
import Derived.StepT
import Derived.Calls
import Derived.Shelf.SlLaysF0
import Derived.Test.YtmcekhgmmocajaaGreatDoorProg
import Derived.Shelf.SlSortCmp.InsertionK
import Derived.Shelf.SlSortCmp.NoneTotal
namespace Go.Proofs.YtmcekhgmmocajaaGreatDoor.Dg

/-- Keys in a strict order, told by a number. -/
structure Ord3 {K : Type} (c : K → K → Int) : Prop where
  eq : ∀ a b, c a b = 0 → a = b
  self : ∀ a, c a a = 0
  turn : ∀ a b, c a b < 0 ↔ 0 < c b a
  trans : ∀ a b d, c a b < 0 → c b d < 0 → c a d < 0

section
variable {K : Type} {c : K → K → Int} {E : Type} {path : E → K} {same : E → E → Bool}

theorem Ord3.ne (h : Ord3 c) {a b : K} (k : c a b < 0) : a ≠ b := by
  rintro rfl
  rw [h.self] at k
  omega
theorem Ord3.asymm (h : Ord3 c) {a b : K} (k : c a b < 0) : ¬ c b a < 0 := by
  have := (h.turn a b).1 k
  omega
theorem Ord3.total (h : Ord3 c) (a b : K) : c a b < 0 ∨ a = b ∨ c b a < 0 := by
  rcases Int.lt_trichotomy (c a b) 0 with k | k | k
  · exact Or.inl k
  · exact Or.inr (Or.inl (h.eq _ _ k))
  · exact Or.inr (Or.inr ((h.turn b a).2 k))

/-- Two lists in strict order that hold the same are the same. -/
theorem sorted_ext {A : Type} {R : A → A → Prop} (ha : ∀ a b, R a b → ¬ R b a) : ∀ {l m : List A}, l.Pairwise R → m.Pairwise R → (∀ x, x ∈ l ↔ x ∈ m) → l = m
  | [], [], _, _, _ => rfl
  | [], b :: m, _, _, h => by have := (h b).2 (by simp); simp at this
  | a :: l, [], _, _, h => by have := (h a).1 (by simp); simp at this
  | a :: l, b :: m, hl, hm, h => by
    obtain ⟨h1, h2⟩ := List.pairwise_cons.1 hl
    obtain ⟨k1, k2⟩ := List.pairwise_cons.1 hm
    have hirr : ∀ x, ¬ R x x := fun x hx => ha x x hx hx
    have hab : a = b := by
      rcases List.mem_cons.1 ((h a).1 (by simp)) with e | e
      · exact e
      · rcases List.mem_cons.1 ((h b).2 (by simp)) with e2 | e2
        · exact e2.symm
        · exact absurd (h1 b e2) (ha b a (k1 a e))
    subst hab
    rw [sorted_ext ha h2 k2 fun x => ?_]
    have hx := h x
    simp only [List.mem_cons] at hx
    constructor
    · intro hm'
      rcases hx.1 (Or.inr hm') with e | e
      · subst e; exact absurd (h1 x hm') (hirr x)
      · exact e
    · intro hm'
      rcases hx.2 (Or.inr hm') with e | e
      · subst e; exact absurd (k1 x hm') (hirr x)
      · exact e

variable [DecidableEq K]
/-- The changes of two lists, by merging. -/
def mrg (c : K → K → Int) (path : E → K) (same : E → E → Bool) : List E → List E → List (K × Bool × Bool)
  | [], [] => []
  | [], b :: m => (path b, false, true) :: mrg c path same [] m
  | a :: l, [] => (path a, true, false) :: mrg c path same l []
  | a :: l, b :: m =>
    if path a = path b then (if same a b then mrg c path same l m else (path a, true, true) :: mrg c path same l m)
    else if c (path a) (path b) < 0 then (path a, true, false) :: mrg c path same l (b :: m)
    else (path b, false, true) :: mrg c path same (a :: l) m
termination_by l m => l.length + m.length

/-- What a change of two lists is. -/
def Tells (path : E → K) (same : E → E → Bool) (l m : List E) (x : K × Bool × Bool) : Prop :=
  (∃ a ∈ l, (∀ b ∈ m, path b ≠ path a) ∧ x = (path a, true, false)) ∨ (∃ a ∈ l, ∃ b ∈ m, path a = path b ∧ same a b = false ∧ x = (path a, true, true)) ∨ (∃ b ∈ m, (∀ a ∈ l, path a ≠ path b) ∧ x = (path b, false, true))
def Srt (c : K → K → Int) (path : E → K) (l : List E) : Prop := l.Pairwise fun a b => c (path a) (path b) < 0
omit [DecidableEq K] in
theorem Srt.uniq (ho : Ord3 c) {l : List E} (h : Srt c path l) {a b : E} (ha : a ∈ l) (hb : b ∈ l) (e : path a = path b) : a = b := by
  induction l with
  | nil => simp at ha
  | cons x l ih =>
    obtain ⟨h1, h2⟩ := List.pairwise_cons.1 h
    rcases List.mem_cons.1 ha with e1 | ha'
    · rcases List.mem_cons.1 hb with e2 | hb'
      · rw [e1, e2]
      · rw [e1] at e
        exact absurd e (ho.ne (h1 b hb'))
    · rcases List.mem_cons.1 hb with e2 | hb'
      · rw [e2] at e
        exact absurd e.symm (ho.ne (h1 a ha'))
      · exact ih h2 ha' hb'

theorem mem_mrg (ho : Ord3 c) : ∀ (l m : List E), Srt c path l → Srt c path m → ∀ x, x ∈ mrg c path same l m ↔ Tells path same l m x
  | [], [], _, _, x => by simp [mrg, Tells]
  | [], b :: m, hl, hm, x => by
    obtain ⟨h1, h2⟩ := List.pairwise_cons.1 hm
    have ih := mem_mrg ho [] m hl h2 x
    simp only [mrg, List.mem_cons, ih]
    simp [Tells]
  | a :: l, [], hl, hm, x => by
    obtain ⟨h1, h2⟩ := List.pairwise_cons.1 hl
    have ih := mem_mrg ho l [] h2 hm x
    simp only [mrg, List.mem_cons, ih]
    simp [Tells]
  | a :: l, b :: m, hl, hm, x => by
    obtain ⟨h1, h2⟩ := List.pairwise_cons.1 hl
    obtain ⟨k1, k2⟩ := List.pairwise_cons.1 hm
    rw [mrg]
    by_cases hp : path a = path b
    · have na : ∀ y ∈ m, path y ≠ path a := fun y hy e => ho.ne (k1 y hy) (hp.symm.trans e.symm)
      have nb : ∀ y ∈ l, path y ≠ path b := fun y hy e => ho.ne (h1 y hy) (hp.trans e.symm)
      have ih := mem_mrg ho l m h2 k2 x
      have hT : Tells path same (a :: l) (b :: m) x ↔ (same a b = false ∧ x = (path a, true, true)) ∨ Tells path same l m x := by
        constructor
        · rintro (⟨y, hy, hn, rfl⟩ | ⟨y, hy, z, hz, hyz, hs, rfl⟩ | ⟨z, hz, hn, rfl⟩)
          · rcases List.mem_cons.1 hy with rfl | hy
            · exact absurd hp.symm (hn b (by simp))
            · exact Or.inr (Or.inl ⟨y, hy, fun q hq => hn q (by simp [hq]), rfl⟩)
          · rcases List.mem_cons.1 hy with rfl | hy
            · rcases List.mem_cons.1 hz with rfl | hz
              · exact Or.inl ⟨hs, rfl⟩
              · exact absurd hyz.symm (na z hz)
            · rcases List.mem_cons.1 hz with rfl | hz
              · exact absurd hyz (nb y hy)
              · exact Or.inr (Or.inr (Or.inl ⟨y, hy, z, hz, hyz, hs, rfl⟩))
          · rcases List.mem_cons.1 hz with rfl | hz
            · exact absurd hp (hn a (by simp))
            · exact Or.inr (Or.inr (Or.inr ⟨z, hz, fun q hq => hn q (by simp [hq]), rfl⟩))
        · rintro (⟨hs, rfl⟩ | ⟨y, hy, hn, rfl⟩ | ⟨y, hy, z, hz, hyz, hs, rfl⟩ | ⟨z, hz, hn, rfl⟩)
          · exact Or.inr (Or.inl ⟨a, by simp, b, by simp, hp, hs, rfl⟩)
          · refine Or.inl ⟨y, by simp [hy], fun q hq => ?_, rfl⟩
            rcases List.mem_cons.1 hq with rfl | hq
            · exact fun e => nb y hy e.symm
            · exact hn q hq
          · exact Or.inr (Or.inl ⟨y, by simp [hy], z, by simp [hz], hyz, hs, rfl⟩)
          · refine Or.inr (Or.inr ⟨z, by simp [hz], fun q hq => ?_, rfl⟩)
            rcases List.mem_cons.1 hq with rfl | hq
            · exact fun e => na z hz e.symm
            · exact hn q hq
      rw [if_pos hp, hT]
      cases hs : same a b
      · simp [ih]
      · simp [ih]
    · rw [if_neg hp]
      by_cases hlt : c (path a) (path b) < 0
      · have na : ∀ y ∈ b :: m, path y ≠ path a := by
          intro y hy
          rcases List.mem_cons.1 hy with rfl | hy
          · exact fun e => hp e.symm
          · exact fun e => ho.ne (ho.trans _ _ _ hlt (k1 y hy)) e.symm
        have ih := mem_mrg ho l (b :: m) h2 hm x
        rw [if_pos hlt]
        simp only [List.mem_cons (a := x), ih]
        constructor
        · rintro (rfl | ⟨y, hy, hn, rfl⟩ | ⟨y, hy, z, hz, hyz, hs, rfl⟩ | ⟨z, hz, hn, rfl⟩)
          · exact Or.inl ⟨a, by simp, na, rfl⟩
          · exact Or.inl ⟨y, by simp [hy], hn, rfl⟩
          · exact Or.inr (Or.inl ⟨y, by simp [hy], z, hz, hyz, hs, rfl⟩)
          · refine Or.inr (Or.inr ⟨z, hz, fun q hq => ?_, rfl⟩)
            rcases List.mem_cons.1 hq with rfl | hq
            · exact fun e => na z hz e.symm
            · exact hn q hq
        · rintro (⟨y, hy, hn, rfl⟩ | ⟨y, hy, z, hz, hyz, hs, rfl⟩ | ⟨z, hz, hn, rfl⟩)
          · rcases List.mem_cons.1 hy with rfl | hy
            · exact Or.inl rfl
            · exact Or.inr (Or.inl ⟨y, hy, hn, rfl⟩)
          · rcases List.mem_cons.1 hy with rfl | hy
            · exact absurd hyz.symm (na z hz)
            · exact Or.inr (Or.inr (Or.inl ⟨y, hy, z, hz, hyz, hs, rfl⟩))
          · exact Or.inr (Or.inr (Or.inr ⟨z, hz, fun q hq => hn q (by simp [hq]), rfl⟩))
      · have hgt : c (path b) (path a) < 0 := by
          rcases ho.total (path a) (path b) with e | e | e
          · exact absurd e hlt
          · exact absurd e hp
          · exact e
        have nb : ∀ y ∈ a :: l, path y ≠ path b := by
          intro y hy
          rcases List.mem_cons.1 hy with rfl | hy
          · exact hp
          · exact fun e => ho.ne (ho.trans _ _ _ hgt (h1 y hy)) e.symm
        have ih := mem_mrg ho (a :: l) m hl k2 x
        rw [if_neg hlt]
        simp only [List.mem_cons (a := x), ih]
        constructor
        · rintro (rfl | ⟨y, hy, hn, rfl⟩ | ⟨y, hy, z, hz, hyz, hs, rfl⟩ | ⟨z, hz, hn, rfl⟩)
          · exact Or.inr (Or.inr ⟨b, by simp, nb, rfl⟩)
          · refine Or.inl ⟨y, hy, fun q hq => ?_, rfl⟩
            rcases List.mem_cons.1 hq with rfl | hq
            · exact fun e => nb y hy e.symm
            · exact hn q hq
          · exact Or.inr (Or.inl ⟨y, hy, z, by simp [hz], hyz, hs, rfl⟩)
          · exact Or.inr (Or.inr ⟨z, by simp [hz], hn, rfl⟩)
        · rintro (⟨y, hy, hn, rfl⟩ | ⟨y, hy, z, hz, hyz, hs, rfl⟩ | ⟨z, hz, hn, rfl⟩)
          · exact Or.inr (Or.inl ⟨y, hy, fun q hq => hn q (by simp [hq]), rfl⟩)
          · rcases List.mem_cons.1 hz with rfl | hz
            · exact absurd hyz (nb y hy)
            · exact Or.inr (Or.inr (Or.inl ⟨y, hy, z, hz, hyz, hs, rfl⟩))
          · rcases List.mem_cons.1 hz with rfl | hz
            · exact Or.inl rfl
            · exact Or.inr (Or.inr (Or.inr ⟨z, hz, hn, rfl⟩))
termination_by l m => l.length + m.length

/-- Changes in order. -/
def SrtC (c : K → K → Int) (l : List (K × Bool × Bool)) : Prop := l.Pairwise fun a b => c a.1 b.1 < 0
omit [DecidableEq K] in
theorem Tells.key {l m : List E} {x : K × Bool × Bool} (h : Tells path same l m x) : (∃ a ∈ l, x.1 = path a) ∨ ∃ b ∈ m, x.1 = path b := by
  rcases h with ⟨a, ha, -, rfl⟩ | ⟨a, ha, b, hb, -, -, rfl⟩ | ⟨b, hb, -, rfl⟩
  · exact Or.inl ⟨a, ha, rfl⟩
  · exact Or.inl ⟨a, ha, rfl⟩
  · exact Or.inr ⟨b, hb, rfl⟩
theorem mrg_sorted (ho : Ord3 c) : ∀ (l m : List E), Srt c path l → Srt c path m → SrtC c (mrg c path same l m)
  | [], [], _, _ => by simp [mrg, SrtC]
  | [], b :: m, hl, hm => by
    obtain ⟨h1, h2⟩ := List.pairwise_cons.1 hm
    rw [mrg]
    refine List.pairwise_cons.2 ⟨fun x hx => ?_, mrg_sorted ho [] m hl h2⟩
    rcases ((mem_mrg ho [] m hl h2 x).1 hx).key with ⟨y, hy, e⟩ | ⟨y, hy, e⟩
    · simp at hy
    · rw [e]; exact h1 y hy
  | a :: l, [], hl, hm => by
    obtain ⟨h1, h2⟩ := List.pairwise_cons.1 hl
    rw [mrg]
    refine List.pairwise_cons.2 ⟨fun x hx => ?_, mrg_sorted ho l [] h2 hm⟩
    rcases ((mem_mrg ho l [] h2 hm x).1 hx).key with ⟨y, hy, e⟩ | ⟨y, hy, e⟩
    · rw [e]; exact h1 y hy
    · simp at hy
  | a :: l, b :: m, hl, hm => by
    obtain ⟨h1, h2⟩ := List.pairwise_cons.1 hl
    obtain ⟨k1, k2⟩ := List.pairwise_cons.1 hm
    rw [mrg]
    by_cases hp : path a = path b
    · rw [if_pos hp]
      have ih := mrg_sorted ho l m h2 k2
      split
      · exact ih
      · refine List.pairwise_cons.2 ⟨fun x hx => ?_, ih⟩
        rcases ((mem_mrg ho l m h2 k2 x).1 hx).key with ⟨y, hy, e⟩ | ⟨y, hy, e⟩
        · rw [e]; exact h1 y hy
        · rw [e, hp]; exact k1 y hy
    · rw [if_neg hp]
      split
      · rename_i hlt
        refine List.pairwise_cons.2 ⟨fun x hx => ?_, mrg_sorted ho l (b :: m) h2 hm⟩
        rcases ((mem_mrg ho l (b :: m) h2 hm x).1 hx).key with ⟨y, hy, e⟩ | ⟨y, hy, e⟩
        · rw [e]; exact h1 y hy
        · rw [e]
          rcases List.mem_cons.1 hy with rfl | hy
          · exact hlt
          · exact ho.trans _ _ _ hlt (k1 y hy)
      · rename_i hlt
        have hgt : c (path b) (path a) < 0 := by
          rcases ho.total (path a) (path b) with e | e | e
          · exact absurd e hlt
          · exact absurd e hp
          · exact e
        refine List.pairwise_cons.2 ⟨fun x hx => ?_, mrg_sorted ho (a :: l) m hl k2⟩
        rcases ((mem_mrg ho (a :: l) m hl k2 x).1 hx).key with ⟨y, hy, e⟩ | ⟨y, hy, e⟩
        · rw [e]
          rcases List.mem_cons.1 hy with rfl | hy
          · exact hgt
          · exact ho.trans _ _ _ hgt (h1 y hy)
        · rw [e]; exact k1 y hy
termination_by l m => l.length + m.length

/-- The changes of two lists, by looking each entry up. -/
def chg1 (path : E → K) (same : E → E → Bool) (m : List E) (a : E) : Option (K × Bool × Bool) :=
  match m.find? fun b => decide (path b = path a) with
  | none => some (path a, true, false)
  | some b => if same a b then none else some (path a, true, true)
def chg2 (path : E → K) (l : List E) (b : E) : Option (K × Bool × Bool) :=
  match l.find? fun a => decide (path a = path b) with
  | none => some (path b, false, true)
  | some _ => none
def chg (path : E → K) (same : E → E → Bool) (l m : List E) : List (K × Bool × Bool) := l.filterMap (chg1 path same m) ++ m.filterMap (chg2 path l)
theorem mem_chg (ho : Ord3 c) {l m : List E} (hm : Srt c path m) (x : K × Bool × Bool) : x ∈ chg path same l m ↔ Tells path same l m x := by
  unfold chg
  rw [List.mem_append, List.mem_filterMap, List.mem_filterMap]
  constructor
  · rintro (⟨a, ha, h⟩ | ⟨b, hb, h⟩)
    · unfold chg1 at h
      split at h
      · rename_i hf
        rw [List.find?_eq_none] at hf
        cases h
        exact Or.inl ⟨a, ha, fun b hb e => hf b hb (by simpa using e), rfl⟩
      · rename_i b hf
        split at h
        · cases h
        · cases h
          exact Or.inr (Or.inl ⟨a, ha, b, List.mem_of_find?_eq_some hf, by have := List.find?_some hf; simp at this; exact this.symm, by simpa using ‹¬ same a b = true›, rfl⟩)
    · unfold chg2 at h
      split at h
      · rename_i hf
        rw [List.find?_eq_none] at hf
        cases h
        exact Or.inr (Or.inr ⟨b, hb, fun a ha e => hf a ha (by simpa using e), rfl⟩)
      · cases h
  · rintro (⟨a, ha, hn, rfl⟩ | ⟨a, ha, b, hb, e, hs, rfl⟩ | ⟨b, hb, hn, rfl⟩)
    · refine Or.inl ⟨a, ha, ?_⟩
      unfold chg1
      rw [List.find?_eq_none.2 fun b hb => by simpa using hn b hb]
    · refine Or.inl ⟨a, ha, ?_⟩
      unfold chg1
      cases hf : m.find? fun b => decide (path b = path a) with
      | none => exact absurd e.symm (by have := List.find?_eq_none.1 hf b hb; simpa using this)
      | some b' =>
        have h1 := List.mem_of_find?_eq_some hf
        have h2 := List.find?_some hf
        simp only [decide_eq_true_eq] at h2
        obtain rfl := hm.uniq ho h1 hb (h2.trans e)
        simp [hs]
    · refine Or.inr ⟨b, hb, ?_⟩
      unfold chg2
      rw [List.find?_eq_none.2 fun a ha => by simpa using hn a ha]

theorem keys_chg (ho : Ord3 c) {l m : List E} (hl : Srt c path l) (hm : Srt c path m) : ((chg path same l m).map (·.1)).Nodup := by
  have hk : ∀ {l : List E}, Srt c path l → ∀ (f : E → Option (K × Bool × Bool)), (∀ a x, f a = some x → x.1 = path a) → ((l.filterMap f).map (·.1)).Nodup := by
    intro l hl f hf
    rw [List.Nodup, List.pairwise_map, List.pairwise_filterMap]
    refine hl.imp fun {a b} hab x hx y hy e => ?_
    rw [hf a x hx, hf b y hy] at e
    exact ho.ne hab e
  have h1 : ∀ a x, chg1 path same m a = some x → x.1 = path a := by
    intro a x h
    unfold chg1 at h
    split at h
    · cases h; rfl
    · split at h
      · cases h
      · cases h; rfl
  have h2 : ∀ a x, chg2 path l a = some x → x.1 = path a ∧ ∀ b ∈ l, path b ≠ path a := by
    intro a x h
    unfold chg2 at h
    split at h
    · rename_i hf
      rw [List.find?_eq_none] at hf
      cases h
      exact ⟨rfl, fun b hb e => hf b hb (by simpa using e)⟩
    · cases h
  unfold chg
  rw [List.map_append, List.nodup_append]
  refine ⟨hk hl _ h1, hk hm _ fun a x h => (h2 a x h).1, ?_⟩
  intro p hp q hq e
  rw [List.mem_map] at hp hq
  obtain ⟨x, hx, rfl⟩ := hp
  obtain ⟨y, hy, rfl⟩ := hq
  rw [List.mem_filterMap] at hx hy
  obtain ⟨a, ha, hx⟩ := hx
  obtain ⟨b, hb, hy⟩ := hy
  rw [h1 a x hx, (h2 b y hy).1] at e
  exact (h2 b y hy).2 a ha e
/-- Whatever holds these changes in order is what the merging tells. -/
theorem sorted_chg (ho : Ord3 c) {l m : List E} (hl : Srt c path l) (hm : Srt c path m) {out : List (K × Bool × Bool)} (hp : List.Perm out (chg path same l m)) (hs : out.Pairwise fun a b => ¬ c b.1 a.1 < 0) : out = mrg c path same l m := by
  have hn : out.Pairwise fun a b => a.1 ≠ b.1 := by
    have := (hp.map (·.1)).nodup_iff.2 (keys_chg ho hl hm)
    rw [List.Nodup, List.pairwise_map] at this
    exact this
  have hs2 : SrtC c out := by
    have := hs.and hn
    refine this.imp fun {a b} ⟨h1, h2⟩ => ?_
    rcases ho.total a.1 b.1 with e | e | e
    · exact e
    · exact absurd e h2
    · exact absurd e h1
  refine sorted_ext (fun a b h k => ho.asymm h k) hs2 (mrg_sorted ho l m hl hm) fun x => ?_
  rw [hp.mem_iff, mem_chg ho hm, mem_mrg ho l m hl hm]
theorem mrg_length (ho : Ord3 c) {l m : List E} (hl : Srt c path l) (hm : Srt c path m) : (mrg c path same l m).length = (chg path same l m).length := by
  have h := sorted_chg (same := same) ho hl hm (out := (chg path same l m).mergeSort fun a b => !decide (c b.1 a.1 < 0)) (List.mergeSort_perm _ _) ?_
  · rw [← h, List.length_mergeSort]
  · have := List.pairwise_mergeSort (le := fun a b : K × Bool × Bool => !decide (c b.1 a.1 < 0)) ?_ ?_ (chg path same l m)
    · refine this.imp fun {a b} h => by simpa using h
    · intro a b d h1 h2
      simp only [Bool.not_eq_true', decide_eq_false_iff_not] at *
      rcases ho.total a.1 b.1 with e | e | e
      · rcases ho.total b.1 d.1 with e2 | e2 | e2
        · exact ho.asymm (ho.trans _ _ _ e e2)
        · rw [← e2]; exact h1
        · exact absurd e2 h2
      · rw [e]; exact h2
      · exact absurd e h1
    · intro a b
      simp only [Bool.or_eq_true, Bool.not_eq_true', decide_eq_false_iff_not]
      rcases ho.total a.1 b.1 with e | e | e
      · exact Or.inl (ho.asymm e)
      · left; rw [e, ho.self]; omega
      · exact Or.inr (ho.asymm e)
/-- The other way round. -/
theorem mrg_swap (ho : Ord3 c) (hsym : ∀ a b, same a b = same b a) {l m : List E} (hl : Srt c path l) (hm : Srt c path m) : mrg c path same m l = (mrg c path same l m).map fun x => (x.1, x.2.2, x.2.1) := by
  have h0 : SrtC c (mrg c path same m l) := mrg_sorted ho m l hm hl
  refine sorted_ext (R := fun a b : K × Bool × Bool => c a.1 b.1 < 0) (fun a b h k => ho.asymm h k) h0 ?_ fun x => ?_
  · have := mrg_sorted (same := same) ho l m hl hm
    rw [List.pairwise_map]
    exact this
  · rw [mem_mrg ho m l hm hl, List.mem_map]
    constructor
    · rintro (⟨a, ha, hn, rfl⟩ | ⟨a, ha, b, hb, e, hs, rfl⟩ | ⟨b, hb, hn, rfl⟩)
      · exact ⟨(path a, false, true), (mem_mrg ho l m hl hm _).2 (Or.inr (Or.inr ⟨a, ha, hn, rfl⟩)), rfl⟩
      · exact ⟨(path a, true, true), (mem_mrg ho l m hl hm _).2 (Or.inr (Or.inl ⟨b, hb, a, ha, e.symm, by rw [hsym]; exact hs, by rw [e]⟩)), rfl⟩
      · exact ⟨(path b, true, false), (mem_mrg ho l m hl hm _).2 (Or.inl ⟨b, hb, hn, rfl⟩), rfl⟩
    · rintro ⟨y, hy, rfl⟩
      rcases (mem_mrg ho l m hl hm _).1 hy with ⟨a, ha, hn, rfl⟩ | ⟨a, ha, b, hb, e, hs, rfl⟩ | ⟨b, hb, hn, rfl⟩
      · exact Or.inr (Or.inr ⟨a, ha, hn, rfl⟩)
      · exact Or.inr (Or.inl ⟨b, hb, a, ha, e.symm, by rw [hsym]; exact hs, by rw [← e]⟩)
      · exact Or.inl ⟨b, hb, hn, rfl⟩
theorem mrg_self (ho : Ord3 c) (hs : ∀ a, same a a = true) {l : List E} (hl : Srt c path l) : mrg c path same l l = [] := by
  refine List.eq_nil_iff_forall_not_mem.2 fun x hx => ?_
  rcases (mem_mrg ho l l hl hl _).1 hx with ⟨a, ha, hn, -⟩ | ⟨a, ha, b, hb, e, h, -⟩ | ⟨b, hb, hn, -⟩
  · exact hn a ha rfl
  · obtain rfl := hl.uniq ho ha hb e
    rw [hs] at h
    cases h
  · exact hn b hb rfl
end
end Go.Proofs.YtmcekhgmmocajaaGreatDoor.Dg
namespace Go.Proofs.YtmcekhgmmocajaaGreatDoor
open Go.RowKit Me

theorem less_irrefl : ∀ a : List UInt8, Op.bytesLess a a = false
  | [] => by simp [Op.bytesLess]
  | x :: a => by simp [Op.bytesLess, less_irrefl a]
theorem less_total : ∀ a b : List UInt8, Op.bytesLess a b = true ∨ a = b ∨ Op.bytesLess b a = true
  | [], [] => Or.inr (Or.inl rfl)
  | [], _ :: _ => Or.inl (by simp [Op.bytesLess])
  | _ :: _, [] => Or.inr (Or.inr (by simp [Op.bytesLess]))
  | x :: a, y :: b => by
    simp only [Op.bytesLess, Bool.or_eq_true, Bool.and_eq_true, decide_eq_true_eq, beq_iff_eq, List.cons.injEq]
    rcases Nat.lt_trichotomy x.toNat y.toNat with h | h | h
    · exact Or.inl (Or.inl (UInt8.lt_iff_toNat_lt.2 h))
    · have hxy : x = y := UInt8.toNat_inj.1 h
      subst hxy
      rcases less_total a b with k | k | k
      · exact Or.inl (Or.inr ⟨rfl, k⟩)
      · exact Or.inr (Or.inl ⟨rfl, k⟩)
      · exact Or.inr (Or.inr (Or.inr ⟨rfl, k⟩))
    · exact Or.inr (Or.inr (Or.inl (UInt8.lt_iff_toNat_lt.2 h)))
theorem cmpB_turn (a b : ByteArray) : cmpB a b < 0 ↔ 0 < cmpB b a := by
  have hl : lessB a b = true → lessB b a = false := by
    intro h
    cases k : lessB b a
    · rfl
    · have := less_trans _ _ _ h k
      rw [less_irrefl] at this
      cases this
  have ht := less_total a.toList b.toList
  have he : (a.toList == b.toList) = (b.toList == a.toList) := by
    cases h : b.toList == a.toList
    · rw [beq_eq_false_iff_ne] at h ⊢
      exact fun e => h e.symm
    · rw [beq_iff_eq] at h ⊢
      exact h.symm
  unfold cmpB
  cases h1 : lessB a b
  · cases h2 : lessB b a
    · have e : (a.toList == b.toList) = true := by
        rcases ht with k | k | k
        · rw [show Op.bytesLess a.toList b.toList = lessB a b from rfl, h1] at k; cases k
        · exact beq_iff_eq.2 k
        · rw [show Op.bytesLess b.toList a.toList = lessB b a from rfl, h2] at k; cases k
      rw [← he, e]
      simp
    · simp only [Bool.false_eq_true, if_false, if_true]
      split <;> simp
  · have e : (b.toList == a.toList) = false := by
      rw [beq_eq_false_iff_ne]
      intro e
      have : lessB a b = false := by
        show Op.bytesLess a.toList b.toList = false
        rw [e]
        exact less_irrefl _
      rw [this] at h1
      cases h1
    rw [hl h1, e]
    simp
theorem cmpB_zero {a b : ByteArray} (h : cmpB a b = 0) : a = b := by
  rcases cmpB_cases a b with ⟨-, e⟩ | ⟨k, -⟩ | k
  · exact e
  · omega
  · omega
theorem cmpL_turn : ∀ l m : List ByteArray, cmpL l m < 0 ↔ 0 < cmpL m l
  | [], [] => by simp [cmpL]
  | [], _ :: _ => by simp [cmpL]
  | _ :: _, [] => by simp [cmpL]
  | a :: l, b :: m => by
    unfold cmpL
    by_cases h : cmpB a b = 0
    · obtain rfl := cmpB_zero h
      rw [if_pos h, if_pos h]
      exact cmpL_turn l m
    · have h2 : cmpB b a ≠ 0 := fun e => h (by rw [cmpB_zero e]; exact cmpB_self _)
      rw [if_neg h, if_neg h2]
      exact cmpB_turn a b
theorem cmpL_zero : ∀ l m : List ByteArray, cmpL l m = 0 → l = m
  | [], [], _ => rfl
  | [], _ :: _, h => by simp [cmpL] at h
  | _ :: _, [], h => by simp [cmpL] at h
  | a :: l, b :: m, h => by
    unfold cmpL at h
    by_cases k : cmpB a b = 0
    · rw [if_pos k] at h
      rw [cmpB_zero k, cmpL_zero l m h]
    · rw [if_neg k] at h
      exact absurd h k
theorem partsP_inj {a b : ByteArray} (h : partsP a = partsP b) : a = b := by
  have dot : ∀ s : ByteArray, (s.toList == [46]) = true → s.data.toList = [46] := fun s hs => by
    have := eq_of_beq hs
    rwa [Lib.toList_data] at this
  unfold partsP at h
  by_cases ha : (a.toList == [46]) = true
  · by_cases hb : (b.toList == [46]) = true
    · exact data_inj ((dot a ha).trans (dot b hb).symm)
    · rw [if_pos ha, if_neg hb] at h
      exact absurd h.symm (pieces_ne b)
  · by_cases hb : (b.toList == [46]) = true
    · rw [if_neg ha, if_pos hb] at h
      exact absurd h (pieces_ne a)
    · rw [if_neg ha, if_neg hb] at h
      have := joinS_pieces a
      rw [h, joinS_pieces] at this
      exact (data_inj this).symm
/-- How the program compares two paths. -/
def cmpP (a b : ByteArray) : Int := cmpL (partsP a) (partsP b)
theorem cmpP_ord : Dg.Ord3 cmpP := ⟨fun _ _ h => partsP_inj (cmpL_zero _ _ h), fun _ => cmpL_self _, fun _ _ => cmpL_turn _ _, fun _ _ _ h k => cmpL_trans _ _ _ h k⟩
end Go.Proofs.YtmcekhgmmocajaaGreatDoor
namespace Go.Proofs.YtmcekhgmmocajaaGreatDoor.Dr
open Go

theorem ask_drawn {α : Type} (a : Ask α) : ∀ w : World, w.drawn ≤ (w.ask a).2.drawn := by
  induction a with
  | done a => intro w; exact Nat.le_refl _
  | ask what range k ih =>
    intro w
    unfold World.ask
    simp only
    split
    · exact ih _ w
    · exact Nat.le_trans (Nat.le_succ _) (ih _ { w with drawn := w.drawn + 1 })
theorem sys_drawn (w : World) (c : Sys) : w.drawn ≤ (w.sys c).2.drawn := by
  have h := ask_drawn (Kernel.perform c w.os) w
  unfold World.sys
  split
  · exact Nat.le_refl _
  · rename_i h1
    rw [h1] at h
    exact h
theorem viewStore_drawn {p : Program} {w w' : World} {a : Addr} {u : TypeId} {k : Addr} {v : Value} {at_ : Bool} {l : List Addr} (h : w.viewStore p a u k v at_ = .ok (w', l)) : w'.drawn = w.drawn := by
  unfold World.viewStore at h
  simp only [bind, Except.bind, pure, Except.pure] at h
  repeat' split at h
  all_goals first | contradiction | (cases h; rfl) | skip
theorem farStore_drawn {p : Program} {w w' : World} {a : Addr} {v : Value} {at_ : Bool} {l : List Addr} (h : w.farStore p a v at_ = .ok (w', l)) : w'.drawn = w.drawn := by
  unfold World.farStore at h
  split at h
  · split at h
    · rename_i h1
      cases h
      exact viewStore_drawn h1
    · cases h
  · cases h
def Up {α : Type} (d : Nat) : Result α → Prop
  | .ok _ w => d ≤ w.drawn
  | .halt _ w => d ≤ w.drawn
theorem Up.mono {α : Type} {d e : Nat} (h : d ≤ e) : ∀ {r : Result α}, Up e r → Up d r
  | .ok _ _, k => Nat.le_trans h k
  | .halt _ _, k => Nat.le_trans h k
theorem setCell_drawn (w : World) (a : Addr) (v : Value) : (w.setCell a v).drawn = w.drawn := rfl
theorem freeze_drawn (w : World) (a : Addr) (n : Nat) : (w.freeze a n).drawn = w.drawn := by
  unfold World.freeze
  split <;> rfl
theorem run_up {α : Type} (p : Program) (s : Sem α) : ∀ w : World, Up w.drawn (s.run p w) := by
  induction s with
  | pure a => intro w; exact Nat.le_refl _
  | load m a k ih =>
    intro w
    simp only [Sem.run]
    split
    · exact ih _ w
    · split
      · exact ih _ w
      · exact Nat.le_refl _
  | store m a v k ih =>
    intro w
    cases v <;> simp only [Sem.run] <;> first | exact Nat.le_refl _ | skip
    all_goals
      split
      · split
        · exact Nat.le_refl _
        · exact ih (w.setCell a _)
      · split
        · rename_i h
          have := ih ‹World›
          rw [farStore_drawn h] at this
          exact this
        · exact Nat.le_refl _
  | new o k ih => intro w; simp only [Sem.run]; exact ih _ _
  | shape r k ih => intro w; simp only [Sem.run]; exact ih _ _
  | freeze a n k ih => intro w; simp only [Sem.run]; have := ih (w.freeze a n); rw [freeze_drawn] at this; exact this
  | frozen a k ih => intro w; simp only [Sem.run]; exact ih _ _
  | getObj r k ih =>
    intro w
    simp only [Sem.run]
    split
    · exact Nat.le_refl _
    · exact ih _ _
    · exact Nat.le_refl _
  | setObj r o k ih =>
    intro w
    simp only [Sem.run]
    split
    · exact Nat.le_refl _
    · exact ih { w with heap := w.heap.setIfInBounds r o }
    · exact Nat.le_refl _
  | choose q k ih =>
    intro w
    simp only [Sem.run]
    split
    · exact ih _ _
    · exact (ih _ { w with drawn := w.drawn + 1 }).mono (Nat.le_succ _)
  | sys c k ih => intro w; simp only [Sem.run]; exact (ih _ _).mono (sys_drawn w c)
  | program k ih => intro w; simp only [Sem.run]; exact ih _ _
  | mark m k ih => intro w; simp only [Sem.run]; exact ih _
  | halt h => intro w; exact Nat.le_refl _
theorem run_ok {α : Type} {p : Program} {s : Sem α} {w w' : World} {v : α} (h : s.run p w = .ok v w') : w.drawn ≤ w'.drawn := by
  have := run_up p s w
  rw [h] at this
  exact this
theorem run_halt {α : Type} {p : Program} {s : Sem α} {w w' : World} {v : Halt} (h : s.run p w = .halt v w') : w.drawn ≤ w'.drawn := by
  have := run_up p s w
  rw [h] at this
  exact this
/-- The world of what one goroutine's step ends in, if the machine goes on. -/
def GUp (d : Nat) : GStep → Prop
  | .go _ w _ => d ≤ w.drawn
  | .comm _ _ _ _ w _ => d ≤ w.drawn
  | .spawn _ _ w _ => d ≤ w.drawn
  | .count _ w _ => d ≤ w.drawn
  | .timer _ _ w _ => d ≤ w.drawn
  | .alone _ _ w _ => d ≤ w.drawn
  | .newcoro _ _ _ w _ => d ≤ w.drawn
  | .coroswitch _ _ _ w _ => d ≤ w.drawn
  | .collect _ w _ => d ≤ w.drawn
  | .watch _ w _ => d ≤ w.drawn
  | .ended _ _ _ => True
theorem GUp.after {d : Nat} (es : Array Event) : ∀ {s : GStep}, GUp d s → GUp d (s.after es) := by
  intro s h
  cases s <;> exact h
theorem GUp.mono {d e : Nat} (h : d ≤ e) : ∀ {s : GStep}, GUp e s → GUp d s := by
  intro s k
  cases s <;> first | exact trivial | exact Nat.le_trans h k
theorem gup_ite {c : Prop} [Decidable c] {d : Nat} {a b : GStep} (ha : GUp d a) (hb : GUp d b) : GUp d (if c then a else b) := by
  split
  · exact ha
  · exact hb
theorem dieOf_up (fr : Frame) (l : List ByteArray) (m : String) (b : Bool) (w : World) : GUp w.drawn (dieOf fr l m b w) := Nat.le_refl _
theorem endThrow_up (fr : Frame) (m : String) (w : World) : GUp w.drawn (endThrow fr m w) := Nat.le_refl _
theorem endPrinting_up (p : Program) (fr : Frame) (v : Value) (w : World) : GUp w.drawn (endPrinting p fr v w) := by
  unfold endPrinting
  simp only
  split
  · exact endThrow_up _ _ _
  · exact trivial
theorem endWith_up (w : World) (fd : Nat) (t : ByteArray) (o : Outcome) (d : Nat) : GUp d (endWith w fd t o) := by
  unfold endWith
  simp only
  split
  · split <;> exact trivial
  · exact trivial
  · exact trivial
theorem endFatal_up (p : Program) (fr : Frame) (cs : List Frame) (dy : Option Dying) (m : String) (w : World) : GUp w.drawn (endFatal p fr cs dy m w) := by
  unfold endFatal
  simp only
  split
  · rename_i h
    exact (dieOf_up _ _ _ _ _).mono (run_ok h)
  · exact trivial
  · exact trivial
theorem writeOn_up (p : Program) (fr : Frame) (d : Dying) (f : Fatal) (w : World) : GUp w.drawn (writeOn p fr d f w) := by
  unfold writeOn
  simp only
  split
  · exact trivial
  · simp only [Sem.runT_eq]
    split
    · rename_i h
      exact run_ok (Prod.mk.inj h).1
    · rename_i h
      exact run_halt (Prod.mk.inj h).1
    · exact trivial
    · exact trivial
theorem die_up (p : Program) (fr : Frame) (d : Dying) (w : World) : GUp w.drawn (die p fr d w) := by
  unfold die
  split
  · exact writeOn_up _ _ _ _ _
  · split
    · split
      · exact Nat.le_refl _
      · exact endWith_up _ _ _ _ _
    · simp only
      split
      · exact Nat.le_refl _
      · split
        · rename_i h
          exact run_ok h
        · exact trivial
      · simp only [Sem.runT_eq]
        refine GUp.after _ ?_
        split
        · rename_i h
          exact run_ok h
        · rename_i h
          exact run_ok h
        · exact trivial
        · rename_i h
          exact (endPrinting_up _ _ _ _).mono (run_halt h)
        · exact trivial
      · exact trivial
theorem doReturn_up (p : Program) (main : Bool) (fr : Frame) (cs : List Frame) (dy : Option Dying) (v : Value) (w : World) : GUp w.drawn (doReturn p main fr cs dy v w) := by
  unfold doReturn
  simp only
  repeat' split
  all_goals first | exact Nat.le_refl _ | exact trivial
theorem callDeferred_up (p : Program) (fr : Frame) (cs : List Frame) (dy : Option Dying) (d : Deferred) (w : World) : GUp w.drawn (callDeferred p fr cs dy d w) := by
  unfold callDeferred
  simp only [Sem.runT_eq]
  refine gup_ite trivial (GUp.after _ ?_)
  repeat' split
  all_goals first | exact trivial | exact run_ok ‹Sem.run _ _ _ = Result.ok _ _› | exact run_halt ‹Sem.run _ _ _ = Result.halt _ _› | exact (endFatal_up _ _ _ _ _ _).mono (run_halt ‹Sem.run _ _ _ = Result.halt _ _›) | exact (endThrow_up _ _ _).mono (run_halt ‹Sem.run _ _ _ = Result.halt _ _›) | skip
theorem unwind_up (p : Program) (main : Bool) (fr : Frame) (cs : List Frame) (dy : Option Dying) (w : World) : GUp w.drawn (unwind p main fr cs dy w) := by
  unfold unwind
  simp only [Sem.runT_eq]
  split
  · refine GUp.after _ ?_
    split
    · rename_i h
      exact run_ok h
    · exact trivial
  · exact callDeferred_up _ _ _ _ _ _
  · split
    · exact trivial
    · split
      · exact trivial
      · split
        · exact Nat.le_refl _
        · split
          · split
            · exact Nat.le_refl _
            · split
              · rename_i h
                exact run_ok h
              · exact trivial
              · exact trivial
          · split
            · exact endPrinting_up _ _ _ _
            · exact trivial
    · split
      · exact doReturn_up _ _ _ _ _ _ _
      · refine GUp.after _ ?_
        split
        · rename_i h
          exact (doReturn_up _ _ _ _ _ _ _).mono (run_ok h)
        · exact trivial
        · exact trivial
theorem early_up (p : Program) (fr : Frame) (cs : List Frame) (dy : Option Dying) (g : Nat) (w : World) : GUp w.drawn (early p fr cs dy g w) := by
  unfold early
  simp only
  repeat' split
  all_goals first | exact trivial | exact Nat.le_refl _ | (simp only [GUp]; exact run_ok ‹Sem.run _ _ _ = Result.ok _ _›) | skip
theorem apply_up (p : Program) (listen : Bool) (fr : Frame) (cs : List Frame) (dy : Option Dying) (e : Sem Next) (w : World) : GUp w.drawn (stepG.apply p listen fr cs dy e w) := by
  unfold stepG.apply
  have h : ∃ es, (if listen = true then e.runT p w #[] else (e.run p w, #[])) = (e.run p w, es) := by
    cases listen
    · exact ⟨_, rfl⟩
    · exact ⟨e.events p w #[], by simp [Sem.runT_eq]⟩
  obtain ⟨es, h⟩ := h
  simp only [h]
  refine GUp.after _ ?_
  repeat' split
  all_goals first | exact trivial | exact run_ok ‹Sem.run _ _ _ = Result.ok _ _› | exact run_halt ‹Sem.run _ _ _ = Result.halt _ _› | exact (endFatal_up _ _ _ _ _ _).mono (run_halt ‹Sem.run _ _ _ = Result.halt _ _›) | exact (endThrow_up _ _ _).mono (run_halt ‹Sem.run _ _ _ = Result.halt _ _›) | exact (endThrow_up _ _ _).mono (run_ok ‹Sem.run _ _ _ = Result.ok _ _›) | exact (early_up _ _ _ _ _ _).mono (run_halt ‹Sem.run _ _ _ = Result.halt _ _›) | skip
theorem oper_up (p : Program) (listen : Bool) (fr : Frame) (cs : List Frame) (dy : Option Dying) (w : World) : GUp w.drawn (stepG.oper p listen fr cs dy w) := by
  unfold stepG.oper
  repeat' split
  all_goals first | exact trivial | exact apply_up _ _ _ _ _ _ _ | skip
theorem gup_elim {α : Type} {d : Nat} {o : Option α} {a : GStep} {f : α → GStep} (ha : GUp d a) (hf : ∀ k, GUp d (f k)) : GUp d (o.elim a f) := by
  cases o
  · exact ha
  · exact hf _
theorem exec_up (p : Program) (main listen : Bool) (fr : Frame) (cs : List Frame) (dy : Option Dying) (w : World) : GUp w.drawn (stepG.exec p main listen fr cs dy w) := by
  unfold stepG.exec
  simp only
  split
  all_goals first | exact trivial | exact Nat.le_refl _ | exact apply_up _ _ _ _ _ _ _ | skip
  all_goals (try simp only [Sem.runT_eq])
  all_goals (try refine GUp.after _ ?_)
  all_goals (repeat' split)
  all_goals first | exact trivial | exact Nat.le_refl _ | exact oper_up _ _ _ _ _ _ | exact run_ok ‹Sem.run _ _ _ = Result.ok _ _› | exact run_halt ‹Sem.run _ _ _ = Result.halt _ _› | exact (apply_up _ _ _ _ _ _ _).mono (run_ok ‹Sem.run _ _ _ = Result.ok _ _›) | exact GUp.after _ ((doReturn_up _ _ _ _ _ _ _).mono (run_ok ‹Sem.run _ _ _ = Result.ok _ _›)) | exact (doReturn_up _ _ _ _ _ _ _).mono (run_ok ‹Sem.run _ _ _ = Result.ok _ _›) | exact gup_elim trivial (fun _ => Nat.le_refl _) | exact gup_elim trivial (fun _ => apply_up _ _ _ _ _ _ _) | exact gup_elim (Nat.le_refl _) (fun _ => Nat.le_refl _) | exact gup_elim (GUp.after _ ((doReturn_up _ _ _ _ _ _ _).mono (run_ok ‹Sem.run _ _ _ = Result.ok _ _›))) (fun _ => Nat.le_refl _) | exact gup_elim (GUp.after _ trivial) (fun _ => Nat.le_refl _) | exact GUp.after _ trivial | skip
theorem stepG_up (p : Program) (main : Bool) (g : Goroutine) (w : World) (listen : Bool) : GUp w.drawn (stepG p main g w listen) := by
  unfold stepG
  simp only
  split
  · exact die_up _ _ _ _
  · exact exec_up _ _ _ _ _ _ _
  · exact unwind_up _ _ _ _ _ _
/-- The machine's world, if it goes on. -/
def SUp (d : Nat) : Stepped → Prop
  | .next m => d ≤ m.world.drawn
  | .ended _ _ => True
theorem SUp.mono {d e : Nat} (h : d ≤ e) : ∀ {s : Stepped}, SUp e s → SUp d s := by
  intro s k
  cases s
  · exact Nat.le_trans h k
  · exact trivial
theorem waitingAt_drawn {rest : Rest} {cases : Array CommCase} {w w' : World} (h : waitingAt rest cases w = some w') : w'.drawn = w.drawn := by
  unfold waitingAt at h
  split at h
  · split at h
    · cases h; rfl
    · cases h
  · cases h; rfl
theorem look_up (p : Program) (gs : Array Goroutine) (rest : Rest) (w : World) : SUp w.drawn (look p gs rest w) := by
  unfold look
  simp only
  split
  · split
    · exact trivial
    · split
      · exact trivial
      · split
        · simp only [SUp]
          exact run_ok ‹Sem.run _ _ _ = Result.ok _ _›
        · exact trivial
        · exact trivial
  · exact trivial
theorem communicate_up (p : Program) (rest : Rest) (gs : Array Goroutine) (i : Nat) (g : Goroutine) (cases : Array CommCase) (blocking : Bool) (shape : CommShape) (w : World) : SUp w.drawn (communicate p rest gs i g cases blocking shape w).1 := by
  unfold communicate
  simp only
  split
  · exact trivial
  split
  · split
    · split
      · have e := waitingAt_drawn ‹waitingAt rest cases w = some _›
        exact Nat.le_of_eq e.symm
      · exact trivial
    · exact Nat.le_refl _
  · split
    · exact trivial
    · rename_i h
      have h := run_ok h
      repeat' split
      all_goals first | exact trivial | exact Nat.le_trans ‹w.drawn ≤ _› (run_halt ‹Sem.run _ _ _ = Result.halt _ _›) | (simp only [SUp]; exact Nat.le_trans ‹w.drawn ≤ _› (run_ok ‹Sem.run _ _ _ = Result.ok _ _›)) | exact ‹w.drawn ≤ _› | (simp only [SUp]; exact ‹w.drawn ≤ _›) | skip
theorem drain_drawn (w : World) (c : Nat) : (drain w c).2.drawn = w.drawn := by
  unfold drain
  split <;> rfl
theorem retime_drawn (m : Machine) (k : Nat) (t : Timer) (a b : Nat) : (retime m k t a b).2.world.drawn = m.world.drawn := by
  unfold retime
  simp only
  split
  · exact drain_drawn _ _
  · rfl
theorem opened_drawn {m m' : Machine} {var : Addr} (h : timerOp.opened m var = some m') : m'.world.drawn = m.world.drawn := by
  unfold timerOp.opened at h
  split at h
  · split at h
    · cases h; rfl
    · cases h
  · cases h; rfl
theorem named_drawn {m0 : Machine} {var : Addr} {f : Nat → Timer → Value × Machine} {m' : Machine} {v : Value} {d : Nat} (hf : ∀ k t, (f k t).2.world.drawn = d) (h : timerOp.named m0 var f = .ok (v, m')) : m'.world.drawn = d := by
  unfold timerOp.named at h
  split at h
  · rename_i k _
    have e := Except.ok.inj h
    have := hf k (m0.rest.timers.getD k default)
    rw [e] at this
    exact this
  · cases h
theorem timerOp_up {m m' : Machine} {op : TimerOp} {v : Value} (h : timerOp m op = .ok (v, m')) : m.world.drawn ≤ m'.world.drawn := by
  unfold timerOp at h
  split at h
  · split at h
    · cases h; exact Nat.le_refl _
    · split at h
      · split at h
        · cases h
        · cases h; exact Nat.le_refl _
      · cases h
  · exact Nat.le_of_eq (named_drawn (fun k t => retime_drawn _ _ _ _ _) h).symm
  · split at h
    · rename_i h1
      have := named_drawn (fun k t => retime_drawn _ _ _ _ _) h
      rw [this, opened_drawn h1]
      exact Nat.le_refl _
    · cases h
  · cases h; exact Nat.le_refl _
theorem serve_up (p : Program) (m : Machine) (k : Nat) : SUp m.world.drawn (serve p m k) := by
  unfold serve
  split
  · exact trivial
  · exact Nat.le_refl _
  · simp only
    split
    · exact trivial
    · exact Nat.le_refl _
theorem runT_up (p : Program) (m : Machine) (i : Nat) (listen : Bool) : SUp m.world.drawn (runT p m i listen).1 := by
  unfold runT
  simp only
  generalize (m.gs.swapAt! i { (default : Goroutine) with status := .finished }) = gg
  have h := stepG_up p (i == 0) gg.1 m.world listen
  generalize stepG p (i == 0) gg.1 m.world listen = s at *
  cases s with
  | ended o w es => exact trivial
  | comm g cases blocking shape w es => exact (communicate_up _ _ _ _ _ _ _ _ _).mono h
  | go g w es => exact h
  | spawn g child w es => exact h
  | count g w es =>
    simp only
    split
    · exact trivial
    · exact h
  | alone g on w es => exact h
  | collect g w es => exact (look_up _ _ _ _).mono h
  | watch g w es => exact h
  | newcoro g c d w es => exact h
  | coroswitch g c exit w es =>
    simp only
    split
    · exact h
    · split
      · have h2 := endThrow_up g.frame "coroswitch on exited coro" w
        rename_i e
        rw [e] at h2
        exact Nat.le_trans h h2
      · exact trivial
    · exact trivial
  | timer g op w es =>
    simp only
    split
    · rename_i e
      exact Nat.le_trans h (timerOp_up e)
    · split
      · have h2 := endThrow_up g.frame ‹String› w
        rename_i e
        rw [e] at h2
        exact Nat.le_trans h h2
      · exact trivial
    · exact trivial
    · exact trivial
def MUp (d : Nat) : Move → Prop
  | .goroutine m _ => d ≤ m.world.drawn
  | .machine s _ => SUp d s
theorem MUp.mono {d e : Nat} (h : d ≤ e) : ∀ {s : Move}, MUp e s → MUp d s := by
  intro s k
  cases s
  · exact Nat.le_trans h k
  · exact SUp.mono h k
theorem askOn_up (p : Program) (m : Machine) : MUp m.world.drawn (askOn p m) := by
  unfold askOn
  simp only
  split
  · exact trivial
  · rename_i h
    have h := run_ok h
    split
    · exact SUp.mono ‹m.world.drawn ≤ _› (serve_up p { m with world := ‹World› } _)
    · split
      · split
        · exact ‹m.world.drawn ≤ _›
        · split
          · exact ‹m.world.drawn ≤ _›
          · split
            · exact trivial
            · exact trivial
      · split
        · split
          · exact trivial
          · have h2 := run_ok ‹Sem.run _ _ _ = Result.ok _ _›
            have h3 := Nat.le_trans ‹m.world.drawn ≤ _› h2
            split
            · exact h3
            · split
              · exact trivial
              · have h4 := run_ok ‹Sem.run _ _ _ = Result.ok _ _›
                exact Nat.le_trans ‹m.world.drawn ≤ _› h4
        · split
          · exact trivial
          · have h2 := run_ok ‹Sem.run _ _ _ = Result.ok _ _›
            have h3 := Nat.le_trans ‹m.world.drawn ≤ _› h2
            split
            · exact trivial
            · have h4 := run_ok ‹Sem.run _ _ _ = Result.ok _ _›
              have h5 := Nat.le_trans ‹m.world.drawn ≤ _› h4
              split
              · exact h5
              · split
                · exact trivial
                · have h6 := run_ok ‹Sem.run _ _ _ = Result.ok _ _›
                  exact Nat.le_trans ‹m.world.drawn ≤ _› h6
          · have h2 := run_ok ‹Sem.run _ _ _ = Result.ok _ _›
            exact Nat.le_trans ‹m.world.drawn ≤ _› h2
          · have h2 := run_ok ‹Sem.run _ _ _ = Result.ok _ _›
            have h3 := Nat.le_trans ‹m.world.drawn ≤ _› h2
            split
            · exact trivial
            · have h4 := run_ok ‹Sem.run _ _ _ = Result.ok _ _›
              have h5 := Nat.le_trans h3 h4
              split
              · exact h5
              · split
                · exact trivial
                · have h6 := run_ok ‹Sem.run _ _ _ = Result.ok _ _›
                  exact Nat.le_trans ‹m.world.drawn ≤ _› h6
theorem ask_up (p : Program) (m : Machine) : MUp m.world.drawn (ask p m) := by
  unfold ask
  split
  · split
    · exact trivial
    · have hl := look_up p m.gs m.rest ‹World›
      split
      · rename_i e
        rw [e] at hl
        exact (askOn_up _ _).mono (Nat.le_trans (run_ok ‹Sem.run _ _ _ = Result.ok _ _›) hl)
      · exact SUp.mono (run_ok ‹Sem.run _ _ _ = Result.ok _ _›) hl
    · exact (askOn_up p { m with world := ‹World› }).mono (run_ok ‹Sem.run _ _ _ = Result.ok _ _›)
  · exact askOn_up _ _
theorem move_up (p : Program) (m : Machine) : MUp m.world.drawn (move p m) := by
  unfold move
  split
  · split
    · exact Nat.le_refl _
    · exact trivial
  · split
    · split
      · exact Nat.le_refl _
      · exact ask_up p { m with rest := { m.rest with slice := none } }
    · exact ask_up _ _
theorem step_up {p : Program} {m m' : Machine} (h : step p m = .next m') : m.world.drawn ≤ m'.world.drawn := by
  have hm := move_up p m
  unfold step stepT at h
  split at h
  · rename_i e
    rw [e] at hm
    have := runT_up p ‹Machine› ‹Nat› true
    rw [h] at this
    exact Nat.le_trans hm this
  · rename_i e
    rw [e] at hm
    simp only at h
    subst h
    exact hm
theorem steps_up {p : Program} {m m' : Machine} (h : Steps p m m') : m.world.drawn ≤ m'.world.drawn := by
  replace h := StepsIn.of_steps h
  induction h with
  | refl => exact Nat.le_refl _
  | head _ hs _ ih => exact Nat.le_trans (step_up hs) ih
/-- What has been drawn is never less behind a call. -/
theorem calls_up {P : Program} {f : FuncId} {args : Array Value} {w : World} {R : Ending → World → Prop} (h : Calls P f args w R) : Calls P f args w fun e w' => R e w' ∧ (w.drawn ≤ w'.drawn ∨ e = .outgrown) := by
  intro cs
  obtain ⟨e, w', fr, hr, hc, h1, h2⟩ := h cs
  refine ⟨e, w', fr, ⟨hr, ?_⟩, hc, h1, h2⟩
  cases e with
  | returned v => exact Or.inl (steps_up hc)
  | panicked c => exact Or.inl (steps_up hc)
  | outgrown => exact Or.inr rfl
end Go.Proofs.YtmcekhgmmocajaaGreatDoor.Dr
namespace Go.Proofs.YtmcekhgmmocajaaGreatDoor
open Go.Shelf
def Tryz.sortChg_ren : Go.Shelf.Ren := ⟨fun | 6 => 81 | 15 => 109 | 14 => 108 | 28 => 127 | 29 => 128 | 20 => 119 | 21 => 120 | 22 => 121 | 23 => 122 | 24 => 123 | 25 => 124 | 26 => 125 | 27 => 126 | 46 => 138 | 47 => 139 | 48 => 140 | 49 => 141 | 50 => 142 | 57 => 146 | n => n, fun | 22 => 49 | 24 => 54 | 25 => 114 | 3 => 3 | 39 => 91 | 0 => 0 | 53 => 45 | 55 => 68 | 4 => 4 | 46 => 150 | 45 => 149 | 50 => 131 | 5 => 5 | 9 => 9 | 66 => 161 | 70 => 165 | 76 => 172 | 77 => 173 | n => n, fun | n => n⟩
theorem Tryz.sortChg : SlLaysF0.n6 Tryz.prog Tryz.sortChg_ren := {
  mixed := by kernel_rfl
  f6 := ⟨Tryz.f81.name, by decide, Tryz.func81.trans (congrArg some (by kernel_rfl))⟩
  f14 := ⟨Tryz.f108.name, by decide, Tryz.func108.trans (congrArg some (by kernel_rfl))⟩
  f15 := Tryz.func109.trans (congrArg some (by kernel_rfl))
  f20 := ⟨Tryz.f119.name, by decide, Tryz.func119.trans (congrArg some (by kernel_rfl))⟩
  f21 := ⟨Tryz.f120.name, by decide, Tryz.func120.trans (congrArg some (by kernel_rfl))⟩
  f22 := ⟨Tryz.f121.name, by decide, Tryz.func121.trans (congrArg some (by kernel_rfl))⟩
  f23 := ⟨Tryz.f122.name, by decide, Tryz.func122.trans (congrArg some (by kernel_rfl))⟩
  f24 := ⟨Tryz.f123.name, by decide, Tryz.func123.trans (congrArg some (by kernel_rfl))⟩
  f25 := ⟨Tryz.f124.name, by decide, Tryz.func124.trans (congrArg some (by kernel_rfl))⟩
  f26 := ⟨Tryz.f125.name, by decide, Tryz.func125.trans (congrArg some (by kernel_rfl))⟩
  f27 := ⟨Tryz.f126.name, by decide, Tryz.func126.trans (congrArg some (by kernel_rfl))⟩
  f28 := Tryz.func127.trans (congrArg some (by kernel_rfl))
  f29 := Tryz.func128.trans (congrArg some (by kernel_rfl))
  f46 := ⟨Tryz.f138.name, by decide, Tryz.func138.trans (congrArg some (by kernel_rfl))⟩
  f47 := Tryz.func139.trans (congrArg some (by kernel_rfl))
  f48 := Tryz.func140.trans (congrArg some (by kernel_rfl))
  f49 := ⟨Tryz.f141.name, by decide, Tryz.func141.trans (congrArg some (by kernel_rfl))⟩
  f50 := ⟨Tryz.f142.name, by decide, Tryz.func142.trans (congrArg some (by kernel_rfl))⟩
  f57 := ⟨Tryz.f146.name, by decide, Tryz.func146.trans (congrArg some (by kernel_rfl))⟩
  t0 := Tryz.underlying0
  a0 := Tryz.isAgg0
  z0 := Tryz.sizeOf0
  v0 := Tryz.zeroValue0
  t3 := Tryz.underlying3
  a3 := Tryz.isAgg3
  z3 := Tryz.sizeOf3
  v3 := Tryz.zeroValue3
  t4 := Tryz.underlying4
  a4 := Tryz.isAgg4
  z4 := Tryz.sizeOf4
  v4 := Tryz.zeroValue4
  t5 := Tryz.underlying5
  a5 := Tryz.isAgg5
  z5 := Tryz.sizeOf5
  v5 := Tryz.zeroValue5
  t9 := Tryz.underlying9
  a9 := Tryz.isAgg9
  z9 := Tryz.sizeOf9
  v9 := Tryz.zeroValue9
  t22 := Tryz.underlying49
  a22 := Tryz.isAgg49
  z22 := Tryz.sizeOf49
  v22 := Tryz.zeroValue49
  t25 := Tryz.underlying114
  a25 := Tryz.isAgg114
  z25 := Tryz.sizeOf114
  v25 := Tryz.zeroValue114
  t39 := Tryz.underlying91
  a39 := Tryz.isAgg91
  z39 := Tryz.sizeOf91
  v39 := Tryz.zeroValue91
  t45 := Tryz.underlying149
  a45 := Tryz.isAgg149
  z45 := Tryz.sizeOf149
  v45 := Tryz.zeroValue149
  t46 := Tryz.underlying150
  a46 := Tryz.isAgg150
  z46 := Tryz.sizeOf150
  v46 := Tryz.zeroValue150
  t50 := Tryz.underlying131
  a50 := Tryz.isAgg131
  z50 := Tryz.sizeOf131
  v50 := Tryz.zeroValue131
  t53 := Tryz.underlying45
  a53 := Tryz.isAgg45
  z53 := Tryz.sizeOf45
  v53 := Tryz.zeroValue45
  t55 := Tryz.underlying68
  a55 := Tryz.isAgg68
  z55 := Tryz.sizeOf68
  v55 := Tryz.zeroValue68
  t66 := Tryz.underlying161
  a66 := Tryz.isAgg161
  z66 := Tryz.sizeOf161
  v66 := Tryz.zeroValue161
  t70 := Tryz.underlying165
  a70 := Tryz.isAgg165
  z70 := Tryz.sizeOf165
  v70 := Tryz.zeroValue165
  t76 := Tryz.underlying172
  a76 := Tryz.isAgg172
  z76 := Tryz.sizeOf172
  v76 := Tryz.zeroValue172
  t77 := Tryz.underlying173
  a77 := Tryz.isAgg173
  z77 := Tryz.sizeOf173
  v77 := Tryz.zeroValue173 }
end Go.Proofs.YtmcekhgmmocajaaGreatDoor
namespace Go.Proofs.YtmcekhgmmocajaaGreatDoor
open Go.RowKit Me

theorem grow_of_mods {w w' : World} (h : Mods [] w w') (hd : w.drawn ≤ w'.drawn) : ∃ q os', w' = Sort.grow (w.drewN q) os' := by
  refine ⟨w'.drawn - w.drawn, w'.heap.extract w.heap.size w'.heap.size, ?_⟩
  have hh : w'.heap = w.heap ++ w'.heap.extract w.heap.size w'.heap.size := by
    apply Array.ext_getElem?
    intro i
    rw [Array.getElem?_append]
    split
    · exact h.block i ‹_› (by simp)
    · rw [Array.getElem?_extract]
      have := h.size
      by_cases hi : i < w'.heap.size
      · rw [if_pos (by omega)]
        congr 1
        omega
      · rw [if_neg (by omega)]
        exact Array.getElem?_eq_none (by omega)
  have h1 := h.os
  have h2 := h.tape
  have h3 := h.output
  cases w with
  | mk heap tape drawn os output =>
    cases w' with
    | mk heap' tape' drawn' os' output' =>
      simp only at *
      subst h1 h2 h3
      simp only [Sort.grow, World.drewN, World.mk.injEq, true_and, and_true]
      exact ⟨hh, by omega⟩
theorem Tabs.cells {w w' : World} (hT : Tabs w) (h : ∀ a : Addr, a.block < 3 → w'.cell? a = w.cell? a) : Tabs w' :=
  ⟨⟨fun c hc => (h ⟨1, c, none⟩ (by show 1 < 3; omega)).trans (hT.u.1 c hc), fun i hi => ⟨(h ⟨2, 2 * i, none⟩ (by show 2 < 3; omega)).trans (hT.u.2 i hi).1, (h ⟨2, 2 * i + 1, none⟩ (by show 2 < 3; omega)).trans (hT.u.2 i hi).2⟩⟩,
    by obtain ⟨m, hm⟩ := hT.m; exact ⟨m, (h ⟨0, 0, none⟩ (by show 0 < 3; omega)).trans hm⟩⟩

/-- Texts that a path may be. -/
abbrev PathT := { p : ByteArray // p.size < 4294967281 }
/-- A change: its path, and whether there was, or is, an entry. -/
abbrev Chg := PathT × Bool × Bool
instance : Inhabited PathT := ⟨⟨⟨#[]⟩, by decide⟩⟩
def encC (x : Chg) : List Value := [.string x.1.1, .bool x.2.1, .bool x.2.2]
def cfC (x y : Chg) : Int := cmpP x.1.1 y.1.1

def RelOr (w : World) (q : Int) (i : Value) (wr : World) : Prop := wr = w ∧ (i = .int .i64 0 ∨ (i = .int .i64 1 ∧ q = 0) ∨ (i = .int .i64 2 ∧ q = 0))
set_option maxRecDepth 100000 in
theorem or_any {w : World} (q : Int) {g : Nat} (h0 : w.cell? ⟨g, 0, none⟩ = some (.int .i64 q)) (h1 : w.cell? ⟨g, 1, none⟩ = some (.int .i64 0)) :
    Calls Tryz.prog 83 #[.slice (some ⟨g, 0, none⟩) 2 2] w fun x w' => x = .returned (.int .i64 q) ∧ w' = w := by
  go_enter Tryz.func83, Tryz.ntmps83
  go_wp2_with fail
  go_loopw [8] (fun i wr => RelOr w q i wr) (fun i _ => 2 - (intOf i).toNat)
  case atStart => exact ⟨rfl, Or.inl rfl⟩
  case round =>
    obtain ⟨rfl, hc⟩ := hrel
    rcases hc with rfl | ⟨rfl, rfl⟩ | ⟨rfl, rfl⟩
    · by_cases hq : q = 0
      · subst hq
        go_wp2_with fail
        exact ⟨⟨rfl, Or.inr (Or.inl ⟨rfl, rfl⟩)⟩, by simp only [intOf]; omega⟩
      · have hq2 : (q != 0) = true := bne_iff_ne.2 hq
        go_wp2_with fail
        go_ret
        exact ⟨rfl, rfl⟩
    · go_wp2_with fail
      exact ⟨⟨rfl, Or.inr (Or.inr ⟨rfl, rfl⟩)⟩, by simp only [intOf]; omega⟩
    · go_wp2_with fail
      go_ret
      exact ⟨rfl, rfl⟩
set_option maxRecDepth 100000 in
theorem less_any {w : World} (p q : ByteArray) (hp : p.size < 4294967281) (hq : q.size < 4294967281) (b1 b2 b3 b4 : Bool) (hT : Tabs w) :
    Calls Tryz.prog 82 #[.agg #[.string p, .bool b1, .bool b2], .agg #[.string q, .bool b3, .bool b4]] w fun x w' => x = .returned (.int .i64 (cmpP p q)) ∧ Mods [] w w' := by
  have HO := Lib.hid (fun w' (hw : Mods [] w w') => order_any (w := w') p q hp hq (hT.mods hw))
  rw [show cmpL (partsP p) (partsP q) = cmpP p q from rfl] at HO
  generalize cmpP p q = z at *
  go_enter Tryz.func82, Tryz.ntmps82
  go_wp2_with fail
  refine (HO.out _ (((Mods.refl [] w).alloc _).alloc _)).mono ?_
  rintro x w1 ⟨rfl, hm⟩
  have HM := Lib.hid ((((Mods.refl [] w).alloc _).alloc _).trans hm (by simp))
  clear hm HO
  go_wp2_with fail
  have c0 : (w1.alloc (.cells #[.int .i64 z, .int .i64 0] 3)).cell? ⟨w1.heap.size, 0, none⟩ = some (.int .i64 z) := by
    rw [cell_of_row _ _ _ _ _ _ (heap_alloc_new w1 _)]
    rfl
  have c1 : (w1.alloc (.cells #[.int .i64 z, .int .i64 0] 3)).cell? ⟨w1.heap.size, 1, none⟩ = some (.int .i64 0) := by
    rw [cell_of_row _ _ _ _ _ _ (heap_alloc_new w1 _)]
    rfl
  refine (or_any z c0 c1).mono ?_
  rintro x w2 ⟨rfl, rfl⟩
  clear c0 c1
  go_wp2_with fail
  go_ret
  exact ⟨rfl, HM.out.alloc _⟩
theorem cmpLays82 (blk off size : Nat) {w : World} (hT : Tabs w) (hb : 3 ≤ blk) : CmpLays Tryz.prog 82 #[] encC 3 cfC blk off size w := by
  intro m os dk hs x y
  have hs3 := hT.three
  have hT' : Tabs (sortWorldK encC 3 w blk off m dk os) := hT.cells fun a ha => by
    unfold sortWorldK
    rw [Sort.cell?_grow _ _ _ (by show a.block < (Sort.putRowK encC 3 (Sort.ahead w m) blk off dk).heap.size; simp only [Sort.putRowK, Sort.putRow, Sort.mapBlock, Sort.ahead, Array.size_modify]; omega)]
    exact Sort.cell?_putRowK_other _ _ _ _ _ _ a (by omega)
  obtain ⟨⟨p, hp⟩, b1, b2⟩ := x
  obtain ⟨⟨q, hq⟩, b3, b4⟩ := y
  refine (Dr.calls_up (less_any p q hp hq b1 b2 b3 b4 hT')).mono ?_
  rintro e w' ⟨⟨rfl, hm⟩, hd⟩
  rcases hd with hd | hd
  · exact ⟨rfl, grow_of_mods hm hd⟩
  · cases hd
theorem ltC (x y : Chg) : ltOf cfC x y = decide (cmpP x.1.1 y.1.1 < 0) := rfl
theorem swoC : Sort.SWO (ltOf cfC) where
  irrefl x := by
    rw [ltC, cmpP_ord.self]
    rfl
  trans x y z h1 h2 := by
    rw [ltC] at *
    exact decide_eq_true (cmpP_ord.trans _ _ _ (of_decide_eq_true h1) (of_decide_eq_true h2))
  ntrans x y z h1 h2 := by
    rw [ltC] at *
    have h1 := of_decide_eq_false h1
    have h2 := of_decide_eq_false h2
    refine decide_eq_false fun h3 => ?_
    rcases cmpP_ord.total x.1.1 y.1.1 with e | e | e
    · exact h1 e
    · rw [e] at h3; exact h2 h3
    · exact h2 (cmpP_ord.trans _ _ _ e h3)
end Go.Proofs.YtmcekhgmmocajaaGreatDoor
namespace Go.Proofs.YtmcekhgmmocajaaGreatDoor
open Go.RowKit Me

theorem flat3 {A B : Type} (f : A → List B) (hf : ∀ x, (f x).length = 3) : ∀ (l : List A) (t : Nat), (l.flatMap f)[t]? = (l[t / 3]?).bind fun x => (f x)[t % 3]?
  | [], t => by simp
  | a :: l, t => by
    rw [List.flatMap_cons, List.getElem?_append, hf a]
    by_cases h : t < 3
    · rw [if_pos h, Nat.div_eq_of_lt h, Nat.mod_eq_of_lt h]
      rfl
    · rw [if_neg h, flat3 f hf l (t - 3)]
      have e1 : t / 3 = (t - 3) / 3 + 1 := by omega
      have e2 : t % 3 = (t - 3) % 3 := by omega
      rw [e1, e2]
      rfl
theorem flatK_list (d : Array Chg) : (Sort.flatK encC 3 d).toList = d.toList.flatMap encC := by
  apply List.ext_getElem?
  intro t
  rw [flat3 encC (fun _ => rfl)]
  rcases Nat.lt_or_ge t (d.size * 3) with h | h
  · have h1 : t / 3 < d.size := by omega
    rw [List.getElem?_eq_getElem (by simp; exact h), Array.getElem_toList, ← getElem!_pos (Sort.flatK encC 3 d) t (by simp; exact h), Sort.get_flatK _ _ _ _ h]
    rw [Array.getElem?_toList, Array.getElem?_eq_getElem h1, getElem!_pos d (t / 3) h1]
    show _ = (encC d[t / 3])[t % 3]?
    have h2 : t % 3 < (encC d[t / 3]).length := by show t % 3 < 3; omega
    rw [List.getElem?_eq_getElem h2, getElem!_pos (encC d[t / 3]) (t % 3) h2]
  · rw [List.getElem?_eq_none (by simp; exact h), Array.getElem?_toList, Array.getElem?_eq_none (by omega)]
    rfl
theorem isAgg54 (w : World) : (isAgg 54).run Tryz.prog w = .ok true w := by kernel_rfl
theorem size54 (w : World) : (Go.sizeOf 54).run Tryz.prog w = .ok 3 w := by kernel_rfl
theorem one54 (x : Chg) : ∀ v ∈ encC x, v.oneCell' = true := by
  intro v hv
  simp only [encC, List.mem_cons, List.not_mem_nil, or_false] at hv
  rcases hv with rfl | rfl | rfl <;> rfl
theorem enter82 (args : Array Value) (w : World) : (callFunc 82 args).run Tryz.prog w = .ok (.enter 82 args) w := enters_of Tryz.func82 (by kernel_rfl) rfl args w
/-- The row is sorted in place. -/
theorem sort_any {w : World} {base : Nat} (L : List Chg) {v : Value} (h : w.ownsRow base 54 3 v L.length (L.flatMap encC)) (hT : Tabs w) (hb : 3 ≤ base) (hn : L.length ≤ 1000000000) :
    Calls Tryz.prog 81 #[v, .func (.func 82) #[] #[]] w fun e w' => e = .returned (.tuple #[]) ∧ ∃ L' : List Chg, List.Perm L' L ∧ (L'.Pairwise fun a b => ¬ cmpP b.1.1 a.1.1 < 0) ∧ w'.ownsRow base 54 3 v L'.length (L'.flatMap encC) ∧ Mods v.ownBlock.toList w w' := by
  have hn0 : ∀ (p : Option Addr) (cap : Nat), Calls Tryz.prog 81 #[.slice p 0 cap, .func (.func 82) #[] #[]] w fun e w' => e = .returned (.tuple #[]) ∧ w' = w := fun p cap => AnyF.slices_SortFunc_none { Tryz.sortChg with } p cap (.func (.func 82) #[] #[]) w
  rcases Nat.eq_zero_or_pos L.length with h0 | h0
  · obtain rfl : L = [] := List.eq_nil_of_length_eq_zero h0
    obtain ⟨A, c, hv⟩ := own_ctor h
    subst hv
    refine (hn0 A c).mono ?_
    rintro e w' ⟨rfl, rfl⟩
    exact ⟨rfl, [], List.Perm.refl _, List.Pairwise.nil, h, Mods.refl _ _⟩
  rcases h.2 with ⟨-, e1⟩ | ⟨g, cap, cur, rfl, hbg, hg, hnc, hcm, hsz, hcur⟩
  · omega
  have hgl := (Array.getElem?_eq_some_iff.1 hg).1
  have hcl : L.length * 3 ≤ cur.size := by rw [hsz]; exact Nat.mul_le_mul_right 3 hnc
  have hH : Sort.HoldsK encC 3 w g 0 L.toArray := by
    intro j hj
    rw [Sort.size_flatK, List.size_toArray] at hj
    have hjc : j < cur.size := by omega
    refine ⟨?_, ?_⟩
    · rw [cell_of_row _ _ _ _ _ _ hg, Nat.zero_add]
      have h1 : (cur.toList.take (L.length * 3))[j]? = (L.flatMap encC)[j]? := by rw [hcur]
      rw [List.getElem?_take, if_pos hj, Array.getElem?_toList] at h1
      rw [h1]
      have h2 := flatK_list L.toArray
      rw [List.toList_toArray] at h2
      rw [← h2, Array.getElem?_toList, Array.getElem?_eq_getElem (by simp; exact hj), getElem!_pos _ _ (by simp; exact hj)]
      rfl
    · exact frozen_of_row _ _ _ _ _ hg
  have hc := AnyQ.slices_SortFunc Tryz.sortChg 3 isAgg54 size54 encC (fun _ => rfl) one54 cfC swoC 82 #[] g 0 cap L.toArray w enter82 (cmpLays82 g 0 _ hT (by omega)) hH hgl (by rw [List.size_toArray]; omega)
  rw [List.size_toArray] at hc
  refine Calls.mono hc ?_
  rintro e w' ⟨rfl, d', n, os, hp, hs, rfl⟩
  have hds : d'.size = L.length := by rw [hp.1, List.size_toArray]
  have hdl : d'.toList.length = L.length := by
    show d'.size = L.length
    exact hds
  refine ⟨rfl, d'.toList, ?_, ?_, ?_, ?_⟩
  · have := hp.2.2
    have e1 : (d'.extract 0 L.length).toList = d'.toList := by
      rw [← hds]
      simp
    have e2 : (L.toArray.extract 0 L.length).toList = L := by simp
    rw [e1, e2] at this
    exact this
  · rw [List.pairwise_iff_getElem]
    intro i j hi hj hij
    rw [Array.length_toList] at hi hj
    have := hs i j (Nat.zero_le _) hij (by omega)
    rw [getElem!_pos d' j hj, getElem!_pos d' i hi] at this
    rw [ltC] at this
    exact of_decide_eq_false this
  · have hg' : (sortWorldK encC 3 w g 0 n d' os).heap[g]? = some (.cells (Sort.putCells id 0 (Sort.flatK encC 3 d') cur) 54 (0, 0)) := by
      unfold sortWorldK
      rw [Sort.heap_grow_old _ _ (by simp only [Sort.putRowK, Sort.putRow, Sort.mapBlock, Sort.ahead, Array.size_modify]; exact hgl)]
      simp only [Sort.putRowK, Sort.putRow, Sort.mapBlock, Sort.ahead]
      rw [Array.getElem?_modify, if_pos rfl, hg]
      rfl
    refine ⟨?_, Or.inr ⟨g, cap, _, ?_, hbg, hg', ?_, hcm, ?_, ?_⟩⟩
    · rw [Array.length_toList, ← flatK_list, Array.length_toList, Sort.size_flatK]
    · rw [hdl]
    · rw [hdl]; exact hnc
    · simp only [Sort.putCells, Array.size_mapIdx]
      exact hsz
    · rw [← flatK_list]
      apply List.ext_getElem?
      intro j
      rw [List.getElem?_take, Array.length_toList]
      by_cases hj : j < d'.size * 3
      · rw [if_pos hj, Array.getElem?_toList, Array.getElem?_toList]
        simp only [Sort.putCells, Array.getElem?_mapIdx]
        rw [Array.getElem?_eq_getElem (show j < cur.size by omega), Array.getElem?_eq_getElem (by simp; exact hj)]
        simp only [Option.map_some, Sort.size_flatK]
        rw [if_pos (by omega), getElem!_pos _ _ (by simp; exact hj)]
        simp
      · rw [if_neg hj, List.getElem?_eq_none (by simp; omega)]
  · refine ⟨rfl, rfl, rfl, ?_, fun k hk hn => ?_⟩
    · simp only [sortWorldK, Sort.size_grow, Sort.putRowK, Sort.putRow, Sort.mapBlock, Sort.ahead, Array.size_modify]
      omega
    · unfold sortWorldK
      rw [Sort.heap_grow_old _ _ (by simp only [Sort.putRowK, Sort.putRow, Sort.mapBlock, Sort.ahead, Array.size_modify]; exact hk)]
      simp only [Sort.putRowK, Sort.putRow, Sort.mapBlock, Sort.ahead]
      rw [Array.getElem?_modify, if_neg (fun e => hn (by simp [Value.ownBlock, e]))]
end Go.Proofs.YtmcekhgmmocajaaGreatDoor
