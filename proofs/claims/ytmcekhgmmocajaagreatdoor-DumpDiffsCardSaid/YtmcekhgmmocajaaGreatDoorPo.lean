/- What parts two sorted lists, said plainly: by merging them, and by looking each entry up in the other list and sorting what is told. | The order of paths: a strict order, and paths that compare as equal are one. -/
import Derived.Lib.Hide
import Derived.Test.YtmcekhgmmocajaaGreatDoorOf3
namespace Go.Proofs.YtmcekhgmmocajaaGreatDoor.Dg

/-- Keys in a strict order, told by a number. -/
structure Ord3 {K : Type} (c : K → K → Int) : Prop where
  eq : ∀ a b, c a b = 0 → a = b
  self : ∀ a, c a a = 0
  turn : ∀ a b, c a b < 0 ↔ 0 < c b a
  trans : ∀ a b d, c a b < 0 → c b d < 0 → c a d < 0

section
variable {K : Type} {c : K → K → Int} {E : Type} {path : E → K} {same : E → E → Bool}

theorem Ord3.ne (h : Ord3 c) {a b : K} (k : c a b < 0) : a ≠ b := by
  rintro rfl
  rw [h.self] at k
  omega
theorem Ord3.asymm (h : Ord3 c) {a b : K} (k : c a b < 0) : ¬ c b a < 0 := by
  have := (h.turn a b).1 k
  omega
theorem Ord3.total (h : Ord3 c) (a b : K) : c a b < 0 ∨ a = b ∨ c b a < 0 := by
  rcases Int.lt_trichotomy (c a b) 0 with k | k | k
  · exact Or.inl k
  · exact Or.inr (Or.inl (h.eq _ _ k))
  · exact Or.inr (Or.inr ((h.turn b a).2 k))

/-- Two lists in strict order that hold the same are the same. -/
theorem sorted_ext {A : Type} {R : A → A → Prop} (ha : ∀ a b, R a b → ¬ R b a) : ∀ {l m : List A}, l.Pairwise R → m.Pairwise R → (∀ x, x ∈ l ↔ x ∈ m) → l = m
  | [], [], _, _, _ => rfl
  | [], b :: m, _, _, h => by have := (h b).2 (by simp); simp at this
  | a :: l, [], _, _, h => by have := (h a).1 (by simp); simp at this
  | a :: l, b :: m, hl, hm, h => by
    obtain ⟨h1, h2⟩ := List.pairwise_cons.1 hl
    obtain ⟨k1, k2⟩ := List.pairwise_cons.1 hm
    have hirr : ∀ x, ¬ R x x := fun x hx => ha x x hx hx
    have hab : a = b := by
      rcases List.mem_cons.1 ((h a).1 (by simp)) with e | e
      · exact e
      · rcases List.mem_cons.1 ((h b).2 (by simp)) with e2 | e2
        · exact e2.symm
        · exact absurd (h1 b e2) (ha b a (k1 a e))
    subst hab
    rw [sorted_ext ha h2 k2 fun x => ?_]
    have hx := h x
    simp only [List.mem_cons] at hx
    constructor
    · intro hm'
      rcases hx.1 (Or.inr hm') with e | e
      · subst e; exact absurd (h1 x hm') (hirr x)
      · exact e
    · intro hm'
      rcases hx.2 (Or.inr hm') with e | e
      · subst e; exact absurd (k1 x hm') (hirr x)
      · exact e

variable [DecidableEq K]
/-- The changes of two lists, by merging. -/
def mrg (c : K → K → Int) (path : E → K) (same : E → E → Bool) : List E → List E → List (K × Bool × Bool)
  | [], [] => []
  | [], b :: m => (path b, false, true) :: mrg c path same [] m
  | a :: l, [] => (path a, true, false) :: mrg c path same l []
  | a :: l, b :: m =>
    if path a = path b then (if same a b then mrg c path same l m else (path a, true, true) :: mrg c path same l m)
    else if c (path a) (path b) < 0 then (path a, true, false) :: mrg c path same l (b :: m)
    else (path b, false, true) :: mrg c path same (a :: l) m
termination_by l m => l.length + m.length

/-- What a change of two lists is. -/
def Tells (path : E → K) (same : E → E → Bool) (l m : List E) (x : K × Bool × Bool) : Prop :=
  (∃ a ∈ l, (∀ b ∈ m, path b ≠ path a) ∧ x = (path a, true, false)) ∨ (∃ a ∈ l, ∃ b ∈ m, path a = path b ∧ same a b = false ∧ x = (path a, true, true)) ∨ (∃ b ∈ m, (∀ a ∈ l, path a ≠ path b) ∧ x = (path b, false, true))
def Srt (c : K → K → Int) (path : E → K) (l : List E) : Prop := l.Pairwise fun a b => c (path a) (path b) < 0
omit [DecidableEq K] in
theorem Srt.uniq (ho : Ord3 c) {l : List E} (h : Srt c path l) {a b : E} (ha : a ∈ l) (hb : b ∈ l) (e : path a = path b) : a = b := by
  induction l with
  | nil => simp at ha
  | cons x l ih =>
    obtain ⟨h1, h2⟩ := List.pairwise_cons.1 h
    rcases List.mem_cons.1 ha with e1 | ha'
    · rcases List.mem_cons.1 hb with e2 | hb'
      · rw [e1, e2]
      · rw [e1] at e
        exact absurd e (ho.ne (h1 b hb'))
    · rcases List.mem_cons.1 hb with e2 | hb'
      · rw [e2] at e
        exact absurd e.symm (ho.ne (h1 a ha'))
      · exact ih h2 ha' hb'

theorem mem_mrg (ho : Ord3 c) : ∀ (l m : List E), Srt c path l → Srt c path m → ∀ x, x ∈ mrg c path same l m ↔ Tells path same l m x
  | [], [], _, _, x => by simp [mrg, Tells]
  | [], b :: m, hl, hm, x => by
    obtain ⟨h1, h2⟩ := List.pairwise_cons.1 hm
    have ih := mem_mrg ho [] m hl h2 x
    simp only [mrg, List.mem_cons, ih]
    simp [Tells]
  | a :: l, [], hl, hm, x => by
    obtain ⟨h1, h2⟩ := List.pairwise_cons.1 hl
    have ih := mem_mrg ho l [] h2 hm x
    simp only [mrg, List.mem_cons, ih]
    simp [Tells]
  | a :: l, b :: m, hl, hm, x => by
    obtain ⟨h1, h2⟩ := List.pairwise_cons.1 hl
    obtain ⟨k1, k2⟩ := List.pairwise_cons.1 hm
    rw [mrg]
    by_cases hp : path a = path b
    · have na : ∀ y ∈ m, path y ≠ path a := fun y hy e => ho.ne (k1 y hy) (hp.symm.trans e.symm)
      have nb : ∀ y ∈ l, path y ≠ path b := fun y hy e => ho.ne (h1 y hy) (hp.trans e.symm)
      have ih := mem_mrg ho l m h2 k2 x
      have hT : Tells path same (a :: l) (b :: m) x ↔ (same a b = false ∧ x = (path a, true, true)) ∨ Tells path same l m x := by
        constructor
        · rintro (⟨y, hy, hn, rfl⟩ | ⟨y, hy, z, hz, hyz, hs, rfl⟩ | ⟨z, hz, hn, rfl⟩)
          · rcases List.mem_cons.1 hy with rfl | hy
            · exact absurd hp.symm (hn b (by simp))
            · exact Or.inr (Or.inl ⟨y, hy, fun q hq => hn q (by simp [hq]), rfl⟩)
          · rcases List.mem_cons.1 hy with rfl | hy
            · rcases List.mem_cons.1 hz with rfl | hz
              · exact Or.inl ⟨hs, rfl⟩
              · exact absurd hyz.symm (na z hz)
            · rcases List.mem_cons.1 hz with rfl | hz
              · exact absurd hyz (nb y hy)
              · exact Or.inr (Or.inr (Or.inl ⟨y, hy, z, hz, hyz, hs, rfl⟩))
          · rcases List.mem_cons.1 hz with rfl | hz
            · exact absurd hp (hn a (by simp))
            · exact Or.inr (Or.inr (Or.inr ⟨z, hz, fun q hq => hn q (by simp [hq]), rfl⟩))
        · rintro (⟨hs, rfl⟩ | ⟨y, hy, hn, rfl⟩ | ⟨y, hy, z, hz, hyz, hs, rfl⟩ | ⟨z, hz, hn, rfl⟩)
          · exact Or.inr (Or.inl ⟨a, by simp, b, by simp, hp, hs, rfl⟩)
          · refine Or.inl ⟨y, by simp [hy], fun q hq => ?_, rfl⟩
            rcases List.mem_cons.1 hq with rfl | hq
            · exact fun e => nb y hy e.symm
            · exact hn q hq
          · exact Or.inr (Or.inl ⟨y, by simp [hy], z, by simp [hz], hyz, hs, rfl⟩)
          · refine Or.inr (Or.inr ⟨z, by simp [hz], fun q hq => ?_, rfl⟩)
            rcases List.mem_cons.1 hq with rfl | hq
            · exact fun e => na z hz e.symm
            · exact hn q hq
      rw [if_pos hp, hT]
      cases hs : same a b
      · simp [ih]
      · simp [ih]
    · rw [if_neg hp]
      by_cases hlt : c (path a) (path b) < 0
      · have na : ∀ y ∈ b :: m, path y ≠ path a := by
          intro y hy
          rcases List.mem_cons.1 hy with rfl | hy
          · exact fun e => hp e.symm
          · exact fun e => ho.ne (ho.trans _ _ _ hlt (k1 y hy)) e.symm
        have ih := mem_mrg ho l (b :: m) h2 hm x
        rw [if_pos hlt]
        simp only [List.mem_cons (a := x), ih]
        constructor
        · rintro (rfl | ⟨y, hy, hn, rfl⟩ | ⟨y, hy, z, hz, hyz, hs, rfl⟩ | ⟨z, hz, hn, rfl⟩)
          · exact Or.inl ⟨a, by simp, na, rfl⟩
          · exact Or.inl ⟨y, by simp [hy], hn, rfl⟩
          · exact Or.inr (Or.inl ⟨y, by simp [hy], z, hz, hyz, hs, rfl⟩)
          · refine Or.inr (Or.inr ⟨z, hz, fun q hq => ?_, rfl⟩)
            rcases List.mem_cons.1 hq with rfl | hq
            · exact fun e => na z hz e.symm
            · exact hn q hq
        · rintro (⟨y, hy, hn, rfl⟩ | ⟨y, hy, z, hz, hyz, hs, rfl⟩ | ⟨z, hz, hn, rfl⟩)
          · rcases List.mem_cons.1 hy with rfl | hy
            · exact Or.inl rfl
            · exact Or.inr (Or.inl ⟨y, hy, hn, rfl⟩)
          · rcases List.mem_cons.1 hy with rfl | hy
            · exact absurd hyz.symm (na z hz)
            · exact Or.inr (Or.inr (Or.inl ⟨y, hy, z, hz, hyz, hs, rfl⟩))
          · exact Or.inr (Or.inr (Or.inr ⟨z, hz, fun q hq => hn q (by simp [hq]), rfl⟩))
      · have hgt : c (path b) (path a) < 0 := by
          rcases ho.total (path a) (path b) with e | e | e
          · exact absurd e hlt
          · exact absurd e hp
          · exact e
        have nb : ∀ y ∈ a :: l, path y ≠ path b := by
          intro y hy
          rcases List.mem_cons.1 hy with rfl | hy
          · exact hp
          · exact fun e => ho.ne (ho.trans _ _ _ hgt (h1 y hy)) e.symm
        have ih := mem_mrg ho (a :: l) m hl k2 x
        rw [if_neg hlt]
        simp only [List.mem_cons (a := x), ih]
        constructor
        · rintro (rfl | ⟨y, hy, hn, rfl⟩ | ⟨y, hy, z, hz, hyz, hs, rfl⟩ | ⟨z, hz, hn, rfl⟩)
          · exact Or.inr (Or.inr ⟨b, by simp, nb, rfl⟩)
          · refine Or.inl ⟨y, hy, fun q hq => ?_, rfl⟩
            rcases List.mem_cons.1 hq with rfl | hq
            · exact fun e => nb y hy e.symm
            · exact hn q hq
          · exact Or.inr (Or.inl ⟨y, hy, z, by simp [hz], hyz, hs, rfl⟩)
          · exact Or.inr (Or.inr ⟨z, by simp [hz], hn, rfl⟩)
        · rintro (⟨y, hy, hn, rfl⟩ | ⟨y, hy, z, hz, hyz, hs, rfl⟩ | ⟨z, hz, hn, rfl⟩)
          · exact Or.inr (Or.inl ⟨y, hy, fun q hq => hn q (by simp [hq]), rfl⟩)
          · rcases List.mem_cons.1 hz with rfl | hz
            · exact absurd hyz (nb y hy)
            · exact Or.inr (Or.inr (Or.inl ⟨y, hy, z, hz, hyz, hs, rfl⟩))
          · rcases List.mem_cons.1 hz with rfl | hz
            · exact Or.inl rfl
            · exact Or.inr (Or.inr (Or.inr ⟨z, hz, hn, rfl⟩))
termination_by l m => l.length + m.length

/-- Changes in order. -/
def SrtC (c : K → K → Int) (l : List (K × Bool × Bool)) : Prop := l.Pairwise fun a b => c a.1 b.1 < 0
omit [DecidableEq K] in
theorem Tells.key {l m : List E} {x : K × Bool × Bool} (h : Tells path same l m x) : (∃ a ∈ l, x.1 = path a) ∨ ∃ b ∈ m, x.1 = path b := by
  rcases h with ⟨a, ha, -, rfl⟩ | ⟨a, ha, b, hb, -, -, rfl⟩ | ⟨b, hb, -, rfl⟩
  · exact Or.inl ⟨a, ha, rfl⟩
  · exact Or.inl ⟨a, ha, rfl⟩
  · exact Or.inr ⟨b, hb, rfl⟩
theorem mrg_sorted (ho : Ord3 c) : ∀ (l m : List E), Srt c path l → Srt c path m → SrtC c (mrg c path same l m)
  | [], [], _, _ => by simp [mrg, SrtC]
  | [], b :: m, hl, hm => by
    obtain ⟨h1, h2⟩ := List.pairwise_cons.1 hm
    rw [mrg]
    refine List.pairwise_cons.2 ⟨fun x hx => ?_, mrg_sorted ho [] m hl h2⟩
    rcases ((mem_mrg ho [] m hl h2 x).1 hx).key with ⟨y, hy, e⟩ | ⟨y, hy, e⟩
    · simp at hy
    · rw [e]; exact h1 y hy
  | a :: l, [], hl, hm => by
    obtain ⟨h1, h2⟩ := List.pairwise_cons.1 hl
    rw [mrg]
    refine List.pairwise_cons.2 ⟨fun x hx => ?_, mrg_sorted ho l [] h2 hm⟩
    rcases ((mem_mrg ho l [] h2 hm x).1 hx).key with ⟨y, hy, e⟩ | ⟨y, hy, e⟩
    · rw [e]; exact h1 y hy
    · simp at hy
  | a :: l, b :: m, hl, hm => by
    obtain ⟨h1, h2⟩ := List.pairwise_cons.1 hl
    obtain ⟨k1, k2⟩ := List.pairwise_cons.1 hm
    rw [mrg]
    by_cases hp : path a = path b
    · rw [if_pos hp]
      have ih := mrg_sorted ho l m h2 k2
      split
      · exact ih
      · refine List.pairwise_cons.2 ⟨fun x hx => ?_, ih⟩
        rcases ((mem_mrg ho l m h2 k2 x).1 hx).key with ⟨y, hy, e⟩ | ⟨y, hy, e⟩
        · rw [e]; exact h1 y hy
        · rw [e, hp]; exact k1 y hy
    · rw [if_neg hp]
      split
      · rename_i hlt
        refine List.pairwise_cons.2 ⟨fun x hx => ?_, mrg_sorted ho l (b :: m) h2 hm⟩
        rcases ((mem_mrg ho l (b :: m) h2 hm x).1 hx).key with ⟨y, hy, e⟩ | ⟨y, hy, e⟩
        · rw [e]; exact h1 y hy
        · rw [e]
          rcases List.mem_cons.1 hy with rfl | hy
          · exact hlt
          · exact ho.trans _ _ _ hlt (k1 y hy)
      · rename_i hlt
        have hgt : c (path b) (path a) < 0 := by
          rcases ho.total (path a) (path b) with e | e | e
          · exact absurd e hlt
          · exact absurd e hp
          · exact e
        refine List.pairwise_cons.2 ⟨fun x hx => ?_, mrg_sorted ho (a :: l) m hl k2⟩
        rcases ((mem_mrg ho (a :: l) m hl k2 x).1 hx).key with ⟨y, hy, e⟩ | ⟨y, hy, e⟩
        · rw [e]
          rcases List.mem_cons.1 hy with rfl | hy
          · exact hgt
          · exact ho.trans _ _ _ hgt (h1 y hy)
        · rw [e]; exact k1 y hy
termination_by l m => l.length + m.length

/-- The changes of two lists, by looking each entry up. -/
def chg1 (path : E → K) (same : E → E → Bool) (m : List E) (a : E) : Option (K × Bool × Bool) :=
  match m.find? fun b => decide (path b = path a) with
  | none => some (path a, true, false)
  | some b => if same a b then none else some (path a, true, true)
def chg2 (path : E → K) (l : List E) (b : E) : Option (K × Bool × Bool) :=
  match l.find? fun a => decide (path a = path b) with
  | none => some (path b, false, true)
  | some _ => none
def chg (path : E → K) (same : E → E → Bool) (l m : List E) : List (K × Bool × Bool) := l.filterMap (chg1 path same m) ++ m.filterMap (chg2 path l)
theorem mem_chg (ho : Ord3 c) {l m : List E} (hm : Srt c path m) (x : K × Bool × Bool) : x ∈ chg path same l m ↔ Tells path same l m x := by
  unfold chg
  rw [List.mem_append, List.mem_filterMap, List.mem_filterMap]
  constructor
  · rintro (⟨a, ha, h⟩ | ⟨b, hb, h⟩)
    · unfold chg1 at h
      split at h
      · rename_i hf
        rw [List.find?_eq_none] at hf
        cases h
        exact Or.inl ⟨a, ha, fun b hb e => hf b hb (by simpa using e), rfl⟩
      · rename_i b hf
        split at h
        · cases h
        · cases h
          exact Or.inr (Or.inl ⟨a, ha, b, List.mem_of_find?_eq_some hf, by have := List.find?_some hf; simp at this; exact this.symm, by simpa using ‹¬ same a b = true›, rfl⟩)
    · unfold chg2 at h
      split at h
      · rename_i hf
        rw [List.find?_eq_none] at hf
        cases h
        exact Or.inr (Or.inr ⟨b, hb, fun a ha e => hf a ha (by simpa using e), rfl⟩)
      · cases h
  · rintro (⟨a, ha, hn, rfl⟩ | ⟨a, ha, b, hb, e, hs, rfl⟩ | ⟨b, hb, hn, rfl⟩)
    · refine Or.inl ⟨a, ha, ?_⟩
      unfold chg1
      rw [List.find?_eq_none.2 fun b hb => by simpa using hn b hb]
    · refine Or.inl ⟨a, ha, ?_⟩
      unfold chg1
      cases hf : m.find? fun b => decide (path b = path a) with
      | none => exact absurd e.symm (by have := List.find?_eq_none.1 hf b hb; simpa using this)
      | some b' =>
        have h1 := List.mem_of_find?_eq_some hf
        have h2 := List.find?_some hf
        simp only [decide_eq_true_eq] at h2
        obtain rfl := hm.uniq ho h1 hb (h2.trans e)
        simp [hs]
    · refine Or.inr ⟨b, hb, ?_⟩
      unfold chg2
      rw [List.find?_eq_none.2 fun a ha => by simpa using hn a ha]

theorem keys_chg (ho : Ord3 c) {l m : List E} (hl : Srt c path l) (hm : Srt c path m) : ((chg path same l m).map (·.1)).Nodup := by
  have hk : ∀ {l : List E}, Srt c path l → ∀ (f : E → Option (K × Bool × Bool)), (∀ a x, f a = some x → x.1 = path a) → ((l.filterMap f).map (·.1)).Nodup := by
    intro l hl f hf
    rw [List.Nodup, List.pairwise_map, List.pairwise_filterMap]
    refine hl.imp fun {a b} hab x hx y hy e => ?_
    rw [hf a x hx, hf b y hy] at e
    exact ho.ne hab e
  have h1 : ∀ a x, chg1 path same m a = some x → x.1 = path a := by
    intro a x h
    unfold chg1 at h
    split at h
    · cases h; rfl
    · split at h
      · cases h
      · cases h; rfl
  have h2 : ∀ a x, chg2 path l a = some x → x.1 = path a ∧ ∀ b ∈ l, path b ≠ path a := by
    intro a x h
    unfold chg2 at h
    split at h
    · rename_i hf
      rw [List.find?_eq_none] at hf
      cases h
      exact ⟨rfl, fun b hb e => hf b hb (by simpa using e)⟩
    · cases h
  unfold chg
  rw [List.map_append, List.nodup_append]
  refine ⟨hk hl _ h1, hk hm _ fun a x h => (h2 a x h).1, ?_⟩
  intro p hp q hq e
  rw [List.mem_map] at hp hq
  obtain ⟨x, hx, rfl⟩ := hp
  obtain ⟨y, hy, rfl⟩ := hq
  rw [List.mem_filterMap] at hx hy
  obtain ⟨a, ha, hx⟩ := hx
  obtain ⟨b, hb, hy⟩ := hy
  rw [h1 a x hx, (h2 b y hy).1] at e
  exact (h2 b y hy).2 a ha e
/-- Whatever holds these changes in order is what the merging tells. -/
theorem sorted_chg (ho : Ord3 c) {l m : List E} (hl : Srt c path l) (hm : Srt c path m) {out : List (K × Bool × Bool)} (hp : List.Perm out (chg path same l m)) (hs : out.Pairwise fun a b => ¬ c b.1 a.1 < 0) : out = mrg c path same l m := by
  have hn : out.Pairwise fun a b => a.1 ≠ b.1 := by
    have := (hp.map (·.1)).nodup_iff.2 (keys_chg ho hl hm)
    rw [List.Nodup, List.pairwise_map] at this
    exact this
  have hs2 : SrtC c out := by
    have := hs.and hn
    refine this.imp fun {a b} ⟨h1, h2⟩ => ?_
    rcases ho.total a.1 b.1 with e | e | e
    · exact e
    · exact absurd e h2
    · exact absurd e h1
  refine sorted_ext (fun a b h k => ho.asymm h k) hs2 (mrg_sorted ho l m hl hm) fun x => ?_
  rw [hp.mem_iff, mem_chg ho hm, mem_mrg ho l m hl hm]
theorem mrg_length (ho : Ord3 c) {l m : List E} (hl : Srt c path l) (hm : Srt c path m) : (mrg c path same l m).length = (chg path same l m).length := by
  have h := sorted_chg (same := same) ho hl hm (out := (chg path same l m).mergeSort fun a b => !decide (c b.1 a.1 < 0)) (List.mergeSort_perm _ _) ?_
  · rw [← h, List.length_mergeSort]
  · have := List.pairwise_mergeSort (le := fun a b : K × Bool × Bool => !decide (c b.1 a.1 < 0)) ?_ ?_ (chg path same l m)
    · refine this.imp fun {a b} h => by simpa using h
    · intro a b d h1 h2
      simp only [Bool.not_eq_true', decide_eq_false_iff_not] at *
      rcases ho.total a.1 b.1 with e | e | e
      · rcases ho.total b.1 d.1 with e2 | e2 | e2
        · exact ho.asymm (ho.trans _ _ _ e e2)
        · rw [← e2]; exact h1
        · exact absurd e2 h2
      · rw [e]; exact h2
      · exact absurd e h1
    · intro a b
      simp only [Bool.or_eq_true, Bool.not_eq_true', decide_eq_false_iff_not]
      rcases ho.total a.1 b.1 with e | e | e
      · exact Or.inl (ho.asymm e)
      · left; rw [e, ho.self]; omega
      · exact Or.inr (ho.asymm e)
/-- The other way round. -/
theorem mrg_swap (ho : Ord3 c) (hsym : ∀ a b, same a b = same b a) {l m : List E} (hl : Srt c path l) (hm : Srt c path m) : mrg c path same m l = (mrg c path same l m).map fun x => (x.1, x.2.2, x.2.1) := by
  have h0 : SrtC c (mrg c path same m l) := mrg_sorted ho m l hm hl
  refine sorted_ext (R := fun a b : K × Bool × Bool => c a.1 b.1 < 0) (fun a b h k => ho.asymm h k) h0 ?_ fun x => ?_
  · have := mrg_sorted (same := same) ho l m hl hm
    rw [List.pairwise_map]
    exact this
  · rw [mem_mrg ho m l hm hl, List.mem_map]
    constructor
    · rintro (⟨a, ha, hn, rfl⟩ | ⟨a, ha, b, hb, e, hs, rfl⟩ | ⟨b, hb, hn, rfl⟩)
      · exact ⟨(path a, false, true), (mem_mrg ho l m hl hm _).2 (Or.inr (Or.inr ⟨a, ha, hn, rfl⟩)), rfl⟩
      · exact ⟨(path a, true, true), (mem_mrg ho l m hl hm _).2 (Or.inr (Or.inl ⟨b, hb, a, ha, e.symm, by rw [hsym]; exact hs, by rw [e]⟩)), rfl⟩
      · exact ⟨(path b, true, false), (mem_mrg ho l m hl hm _).2 (Or.inl ⟨b, hb, hn, rfl⟩), rfl⟩
    · rintro ⟨y, hy, rfl⟩
      rcases (mem_mrg ho l m hl hm _).1 hy with ⟨a, ha, hn, rfl⟩ | ⟨a, ha, b, hb, e, hs, rfl⟩ | ⟨b, hb, hn, rfl⟩
      · exact Or.inr (Or.inr ⟨a, ha, hn, rfl⟩)
      · exact Or.inr (Or.inl ⟨b, hb, a, ha, e.symm, by rw [hsym]; exact hs, by rw [← e]⟩)
      · exact Or.inl ⟨b, hb, hn, rfl⟩
theorem mrg_self (ho : Ord3 c) (hs : ∀ a, same a a = true) {l : List E} (hl : Srt c path l) : mrg c path same l l = [] := by
  refine List.eq_nil_iff_forall_not_mem.2 fun x hx => ?_
  rcases (mem_mrg ho l l hl hl _).1 hx with ⟨a, ha, hn, -⟩ | ⟨a, ha, b, hb, e, h, -⟩ | ⟨b, hb, hn, -⟩
  · exact hn a ha rfl
  · obtain rfl := hl.uniq ho ha hb e
    rw [hs] at h
    cases h
  · exact hn b hb rfl
end
end Go.Proofs.YtmcekhgmmocajaaGreatDoor.Dg
namespace Go.Proofs.YtmcekhgmmocajaaGreatDoor
open Go.RowKit Me

theorem less_irrefl : ∀ a : List UInt8, Op.bytesLess a a = false
  | [] => by simp [Op.bytesLess]
  | x :: a => by simp [Op.bytesLess, less_irrefl a]
theorem less_total : ∀ a b : List UInt8, Op.bytesLess a b = true ∨ a = b ∨ Op.bytesLess b a = true
  | [], [] => Or.inr (Or.inl rfl)
  | [], _ :: _ => Or.inl (by simp [Op.bytesLess])
  | _ :: _, [] => Or.inr (Or.inr (by simp [Op.bytesLess]))
  | x :: a, y :: b => by
    simp only [Op.bytesLess, Bool.or_eq_true, Bool.and_eq_true, decide_eq_true_eq, beq_iff_eq, List.cons.injEq]
    rcases Nat.lt_trichotomy x.toNat y.toNat with h | h | h
    · exact Or.inl (Or.inl (UInt8.lt_iff_toNat_lt.2 h))
    · have hxy : x = y := UInt8.toNat_inj.1 h
      subst hxy
      rcases less_total a b with k | k | k
      · exact Or.inl (Or.inr ⟨rfl, k⟩)
      · exact Or.inr (Or.inl ⟨rfl, k⟩)
      · exact Or.inr (Or.inr (Or.inr ⟨rfl, k⟩))
    · exact Or.inr (Or.inr (Or.inl (UInt8.lt_iff_toNat_lt.2 h)))
theorem cmpB_turn (a b : ByteArray) : cmpB a b < 0 ↔ 0 < cmpB b a := by
  have hl : lessB a b = true → lessB b a = false := by
    intro h
    cases k : lessB b a
    · rfl
    · have := less_trans _ _ _ h k
      rw [less_irrefl] at this
      cases this
  have ht := less_total a.toList b.toList
  have he : (a.toList == b.toList) = (b.toList == a.toList) := by
    cases h : b.toList == a.toList
    · rw [beq_eq_false_iff_ne] at h ⊢
      exact fun e => h e.symm
    · rw [beq_iff_eq] at h ⊢
      exact h.symm
  unfold cmpB
  cases h1 : lessB a b
  · cases h2 : lessB b a
    · have e : (a.toList == b.toList) = true := by
        rcases ht with k | k | k
        · rw [show Op.bytesLess a.toList b.toList = lessB a b from rfl, h1] at k; cases k
        · exact beq_iff_eq.2 k
        · rw [show Op.bytesLess b.toList a.toList = lessB b a from rfl, h2] at k; cases k
      rw [← he, e]
      simp
    · simp only [Bool.false_eq_true, if_false, if_true]
      split <;> simp
  · have e : (b.toList == a.toList) = false := by
      rw [beq_eq_false_iff_ne]
      intro e
      have : lessB a b = false := by
        show Op.bytesLess a.toList b.toList = false
        rw [e]
        exact less_irrefl _
      rw [this] at h1
      cases h1
    rw [hl h1, e]
    simp
theorem cmpB_zero {a b : ByteArray} (h : cmpB a b = 0) : a = b := by
  rcases cmpB_cases a b with ⟨-, e⟩ | ⟨k, -⟩ | k
  · exact e
  · omega
  · omega
theorem cmpL_turn : ∀ l m : List ByteArray, cmpL l m < 0 ↔ 0 < cmpL m l
  | [], [] => by simp [cmpL]
  | [], _ :: _ => by simp [cmpL]
  | _ :: _, [] => by simp [cmpL]
  | a :: l, b :: m => by
    unfold cmpL
    by_cases h : cmpB a b = 0
    · obtain rfl := cmpB_zero h
      rw [if_pos h, if_pos h]
      exact cmpL_turn l m
    · have h2 : cmpB b a ≠ 0 := fun e => h (by rw [cmpB_zero e]; exact cmpB_self _)
      rw [if_neg h, if_neg h2]
      exact cmpB_turn a b
theorem cmpL_zero : ∀ l m : List ByteArray, cmpL l m = 0 → l = m
  | [], [], _ => rfl
  | [], _ :: _, h => by simp [cmpL] at h
  | _ :: _, [], h => by simp [cmpL] at h
  | a :: l, b :: m, h => by
    unfold cmpL at h
    by_cases k : cmpB a b = 0
    · rw [if_pos k] at h
      rw [cmpB_zero k, cmpL_zero l m h]
    · rw [if_neg k] at h
      exact absurd h k
theorem partsP_inj {a b : ByteArray} (h : partsP a = partsP b) : a = b := by
  have dot : ∀ s : ByteArray, (s.toList == [46]) = true → s.data.toList = [46] := fun s hs => by
    have := eq_of_beq hs
    rwa [Lib.toList_data] at this
  unfold partsP at h
  by_cases ha : (a.toList == [46]) = true
  · by_cases hb : (b.toList == [46]) = true
    · exact data_inj ((dot a ha).trans (dot b hb).symm)
    · rw [if_pos ha, if_neg hb] at h
      exact absurd h.symm (pieces_ne b)
  · by_cases hb : (b.toList == [46]) = true
    · rw [if_neg ha, if_pos hb] at h
      exact absurd h (pieces_ne a)
    · rw [if_neg ha, if_neg hb] at h
      have := joinS_pieces a
      rw [h, joinS_pieces] at this
      exact (data_inj this).symm
/-- How the program compares two paths. -/
def cmpP (a b : ByteArray) : Int := cmpL (partsP a) (partsP b)
theorem cmpP_ord : Dg.Ord3 cmpP := ⟨fun _ _ h => partsP_inj (cmpL_zero _ _ h), fun _ => cmpL_self _, fun _ _ => cmpL_turn _ _, fun _ _ _ h k => cmpL_trans _ _ _ h k⟩
end Go.Proofs.YtmcekhgmmocajaaGreatDoor
