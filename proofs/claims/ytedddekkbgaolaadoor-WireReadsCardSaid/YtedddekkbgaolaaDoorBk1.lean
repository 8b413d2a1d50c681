/- The Book, whole: its rows; entries that bear a mark; a list that is grown one by one. -/
import Derived.Test.YtedddekkbgaolaaDoorDo
import Derived.Test.YtedddekkbgaolaaDoorMf
namespace Go.Proofs.YtedddekkbgaolaaDoor
open Go.RowKit Me

/-- A list that is marked whole. -/
structure En where
  v : Value
  n : Nat
  m : UInt8
def markL (n : Nat) (m : UInt8) : List Value := (List.replicate n m).map byteV
def enOk (w : World) (e : En) : Prop := Rd w e.v (markL e.n e.m) ∧ ∀ k, e.v.ownBlock = some k → k < w.heap.size
def enF (E : List En) : List Nat := E.flatMap fun e => e.v.ownBlock.toList
theorem enF_mem {E : List En} {e : En} (h : e ∈ E) {k : Nat} (hk : e.v.ownBlock = some k) : k ∈ enF E := List.mem_flatMap.2 ⟨e, h, by simp [hk]⟩
theorem enOk_mods {w w' : World} {G : List Nat} {e : En} (h : enOk w e) (hm : Mods G w w') (hn : ∀ k, e.v.ownBlock = some k → k ∉ G) : enOk w' e :=
  ⟨h.1.mods hm hn, fun k hk => Nat.lt_of_lt_of_le (h.2 k hk) hm.size⟩
def MkE (E : List En) : Pc where
  A := fun w F => (∀ e ∈ E, enOk w e) ∧ F = enF E
  mods := by
    rintro w w' F G ⟨h, rfl⟩ hm hn
    exact ⟨fun e he => enOk_mods (h e he) hm (fun k hk => hn k (enF_mem he hk)), rfl⟩
  lt := by
    rintro w F ⟨h, rfl⟩ k hk
    obtain ⟨e, he, hk⟩ := List.mem_flatMap.1 hk
    exact (h e he).2 k (by simpa using hk)
theorem MkE.join (E1 E2 : List En) : Pc.Ent ((MkE E1).star (MkE E2)) (MkE (E1 ++ E2)) := by
  rintro w F ⟨F1, F2, ⟨h1, rfl⟩, ⟨h2, rfl⟩, _, rfl⟩
  refine ⟨_, ⟨fun e he => ?_, rfl⟩, fun k hk => by simpa [enF] using hk⟩
  rcases List.mem_append.1 he with he | he
  · exact h1 e he
  · exact h2 e he
/-- A row that is grown by its own mark, and those that it was, which may lie in the same block. -/
def Grp (g : Value) (len : Nat) (m : UInt8) (Es : List En) : Pc where
  A := fun w F => w.ownsRow 0 5 1 g len (markL len m) ∧ (∀ e ∈ Es, enOk w e ∧ e.m = m ∧ ∀ k, e.v.ownBlock = some k → g.ownBlock = some k → ∃ c, e.v = .slice (some ⟨k, 0, none⟩) e.n c ∧ e.n ≤ len) ∧ F = g.ownBlock.toList ++ enF Es
  mods := by
    rintro w w' F G ⟨h1, h2, rfl⟩ hm hn
    exact ⟨ownsRow_mods h1 hm (fun k hk => hn k (by simp [hk])), fun e he => ⟨enOk_mods (h2 e he).1 hm (fun k hk => hn k (List.mem_append_right _ (enF_mem he hk))), (h2 e he).2⟩, rfl⟩
  lt := by
    rintro w F ⟨h1, h2, rfl⟩ k hk
    rcases List.mem_append.1 hk with hk | hk
    · exact ownsRow_lt h1 k (by simpa using hk)
    · obtain ⟨e, he, hk⟩ := List.mem_flatMap.1 hk
      exact (h2 e he).1.2 k (by simpa using hk)
theorem markL_len (n : Nat) (m : UInt8) : (markL n m).length = n := by simp [markL]
theorem markL_snoc (n : Nat) (m : UInt8) : markL (n + 1) m = markL n m ++ [byteV m] := by simp [markL, List.replicate_succ']
theorem own_en {w : World} {g : Value} {n : Nat} {m : UInt8} (h : w.ownsRow 0 5 1 g n (markL n m)) : enOk w ⟨g, n, m⟩ := ⟨Rd.of_own h, ownsRow_lt h⟩
theorem own_shape {w : World} {g : Value} {n : Nat} {xs : List Value} (h : w.ownsRow 0 5 1 g n xs) : ∀ k, g.ownBlock = some k → ∃ c, g = .slice (some ⟨k, 0, none⟩) n c := by
  intro k hk
  rcases ownsRow_form h with ⟨rfl, _⟩ | ⟨b, c, rfl, _⟩
  · simp [Value.ownBlock] at hk
  · simp [Value.ownBlock] at hk
    subst hk
    exact ⟨c, rfl⟩
theorem Grp.start (v : Value) (n : Nat) (m : UInt8) : Pc.Ent (Pc.row 5 1 v n (markL n m)) (Grp v n m [⟨v, n, m⟩]) := by
  rintro w F ⟨h, rfl⟩
  refine ⟨_, ⟨h, fun e he => ?_, rfl⟩, fun k hk => by simpa [enF] using hk⟩
  simp at he
  subst he
  refine ⟨own_en h, rfl, fun k hk _ => ?_⟩
  obtain ⟨c, hc⟩ := own_shape h k hk
  exact ⟨c, hc, Nat.le_refl _⟩
theorem Grp.note (g : Value) (len : Nat) (m : UInt8) (Es : List En) : Pc.Ent (Grp g len m Es) (Grp g len m (Es ++ [⟨g, len, m⟩])) := by
  rintro w F ⟨h1, h2, rfl⟩
  refine ⟨_, ⟨h1, fun e he => ?_, rfl⟩, fun k hk => by
    simp only [enF, List.flatMap_append, List.mem_append] at hk ⊢
    rcases hk with hk | hk | hk
    · exact Or.inl hk
    · exact Or.inr hk
    · exact Or.inl (by simpa using hk)⟩
  rcases List.mem_append.1 he with he | he
  · exact h2 e he
  · simp at he
    subst he
    refine ⟨own_en h1, rfl, fun k hk _ => ?_⟩
    obtain ⟨c, hc⟩ := own_shape h1 k hk
    exact ⟨c, hc, Nat.le_refl _⟩
theorem Grp.stop (g : Value) (len : Nat) (m : UInt8) (Es : List En) : Pc.Ent (Grp g len m Es) (MkE Es) := by
  rintro w F ⟨h1, h2, rfl⟩
  exact ⟨_, ⟨fun e he => (h2 e he).1, rfl⟩, fun k hk => List.mem_append_right _ hk⟩
theorem Grp.own {w : World} {F : List Nat} {g : Value} {len : Nat} {m : UInt8} {Es : List En} (h : (Grp g len m Es).A w F) : w.ownsRow 0 5 1 g len (markL len m) := h.1
/-- One more. -/
theorem Grp.turn {w w' : World} {g g' : Value} {len : Nat} {m : UInt8} {Es : List En} {o : Obj} (hown : w'.ownsRow 0 5 1 g' (len + 1) (markL (len + 1) m))
    (hat : (g'.ownBlock = g.ownBlock ∧ (w.alloc o).grownBy w' g.ownBlock) ∨ (g'.ownBlock = some (w.heap.size + 1) ∧ (w.alloc o).grownBy w' none)) :
    ∀ F1, (Grp g len m Es).A w F1 → Post (Grp g' (len + 1) m Es) w F1 w' := by
  rintro F1 ⟨h1, h2, rfl⟩
  rcases hat with ⟨he, hg⟩ | ⟨he, hg⟩
  · have hm : Mods g.ownBlock.toList w w' := ((Mods.refl _ _).alloc _).grown hg (fun b hb => Or.inl (by rw [hb]; simp))
    refine ⟨_, ⟨hown, fun e hee => ?_, rfl⟩, hm.mono (fun b hb => Or.inl (List.mem_append_left _ hb)), fun k hk => Or.inl (by rwa [he] at hk)⟩
    obtain ⟨hok, hem, hsh⟩ := h2 e hee
    by_cases hs : ∃ k, e.v.ownBlock = some k ∧ g.ownBlock = some k
    · obtain ⟨k, hk, hgk⟩ := hs
      obtain ⟨c, hv, hn⟩ := hsh k hk hgk
      refine ⟨⟨?_, fun j hj => Nat.lt_of_lt_of_le (hok.2 j hj) hm.size⟩, hem, fun j hj _ => ⟨c, by rw [hv] at hj ⊢; simp [Value.ownBlock] at hj; subst hj; rfl, by omega⟩⟩
      obtain ⟨A, c', hv', hc1, hc2, _⟩ := hok.1
      obtain ⟨cg, hgv⟩ := own_shape hown k (by rw [he]; exact hgk)
      subst hgv
      refine ⟨A, c', hv', hc1, hc2, fun j u hu => ?_⟩
      have hjn : j < e.n := by have := (List.getElem?_eq_some_iff.1 hu).1; rwa [markL_len] at this
      have hu' : u = byteV m := by
        have := (List.getElem?_eq_some_iff.1 hu).2
        rw [← this, ← hem]
        simp [markL]
      have hcell := hown.cells (g := k) rfl j (byteV m) (by simp [markL, show j < len + 1 by omega])
      rw [Addr.add_lit] at hcell
      rw [hv] at hv'
      injection hv' with hA _ _
      exact ⟨k, 0, hA.symm, by rw [hu']; simpa using hcell⟩
    · refine ⟨enOk_mods hok hm (fun k hk hf => hs ⟨k, hk, by simpa using hf⟩), hem, fun k hk hgk => absurd ⟨k, hk, by rw [← he]; exact hgk⟩ hs⟩
  · have hm : Mods [] w w' := ((Mods.refl _ _).alloc _).grown hg (fun b hb => by cases hb)
    refine ⟨_, ⟨hown, fun e hee => ?_, rfl⟩, hm.mono (by simp), fun k hk => ?_⟩
    · obtain ⟨hok, hem, hsh⟩ := h2 e hee
      refine ⟨enOk_mods hok hm (by simp), hem, fun k hk hgk => ?_⟩
      rw [he] at hgk
      have := hok.2 k hk
      injection hgk with hgk
      omega
    · rcases List.mem_append.1 hk with hk | hk
      · rw [he] at hk
        simp at hk
        exact Or.inr (by omega)
      · exact Or.inl (List.mem_append_right _ hk)
end Go.Proofs.YtedddekkbgaolaaDoor
