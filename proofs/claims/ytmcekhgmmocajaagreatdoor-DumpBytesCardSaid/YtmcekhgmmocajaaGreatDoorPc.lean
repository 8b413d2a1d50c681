/- Pieces of memory: what is said of a world by means of a list of blocks (its footprint), and stays when others are written; pieces side by side; calls that turn one piece, with the others about. Over any program. -/
import Derived.Test.YtmcekhgmmocajaaGreatDoorMem
namespace Go.Proofs.YtmcekhgmmocajaaGreatDoor.Me
open Go Go.RowKit

structure Pc where
  A : World → List Nat → Prop
  mods : ∀ {w w' : World} {F G : List Nat}, A w F → Mods G w w' → (∀ k ∈ F, k ∉ G) → A w' F
  lt : ∀ {w : World} {F : List Nat}, A w F → ∀ k ∈ F, k < w.heap.size
namespace Pc
def emp : Pc := ⟨fun _ F => F = [], fun h _ _ => h, fun h k hk => by subst h; cases hk⟩
def star (p q : Pc) : Pc where
  A := fun w F => ∃ F1 F2, p.A w F1 ∧ q.A w F2 ∧ (∀ k ∈ F1, k ∉ F2) ∧ F = F1 ++ F2
  mods := by
    rintro w w' F G ⟨F1, F2, h1, h2, h3, rfl⟩ hm hn
    exact ⟨F1, F2, p.mods h1 hm (fun k hk => hn k (List.mem_append_left _ hk)), q.mods h2 hm (fun k hk => hn k (List.mem_append_right _ hk)), h3, rfl⟩
  lt := by
    rintro w F ⟨F1, F2, h1, h2, _, rfl⟩ k hk
    rcases List.mem_append.1 hk with hk | hk
    · exact p.lt h1 k hk
    · exact q.lt h2 k hk
def ex {α : Type} (p : α → Pc) : Pc := ⟨fun w F => ∃ x, (p x).A w F, fun ⟨x, h⟩ hm hn => ⟨x, (p x).mods h hm hn⟩, fun ⟨x, h⟩ => (p x).lt h⟩
def when (φ : Prop) (p : Pc) : Pc := ⟨fun w F => φ ∧ p.A w F, fun ⟨x, h⟩ hm hn => ⟨x, p.mods h hm hn⟩, fun ⟨_, h⟩ => p.lt h⟩
/-- A block, whole. -/
def blk (b : Nat) (o : Obj) : Pc where
  A := fun w F => w.heap[b]? = some o ∧ F = [b]
  mods := by
    rintro w w' F G ⟨h, rfl⟩ hm hn
    exact ⟨hm.heap h (hn b (by simp)), rfl⟩
  lt := by
    rintro w F ⟨h, rfl⟩ k hk
    simp at hk
    subst hk
    exact (Array.getElem?_eq_some_iff.1 h).1
/-- A row that was made, and can be grown. -/
def row (e : TypeId) (size : Nat) (v : Value) (n : Nat) (xs : List Value) : Pc where
  A := fun w F => w.ownsRow 0 e size v n xs ∧ F = v.ownBlock.toList
  mods := by
    rintro w w' F G ⟨h, rfl⟩ hm hn
    exact ⟨ownsRow_mods h hm (fun k hk => hn k (by rw [hk]; simp)), rfl⟩
  lt := by
    rintro w F ⟨h, rfl⟩ k hk
    exact ownsRow_lt h k (by simpa using hk)
/-- One of them says at least what the other says, of no more blocks. -/
def Ent (p q : Pc) : Prop := ∀ w F, p.A w F → ∃ F', q.A w F' ∧ ∀ k ∈ F', k ∈ F
theorem Ent.refl (p : Pc) : Ent p p := fun _ F h => ⟨F, h, fun _ hk => hk⟩
theorem Ent.trans {p q r : Pc} (h : Ent p q) (k : Ent q r) : Ent p r := fun w F hp => by
  obtain ⟨F1, h1, h2⟩ := h w F hp
  obtain ⟨F2, h3, h4⟩ := k w F1 h1
  exact ⟨F2, h3, fun x hx => h2 x (h4 x hx)⟩
theorem Ent.comm (p q : Pc) : Ent (p.star q) (q.star p) := by
  rintro w F ⟨F1, F2, h1, h2, h3, rfl⟩
  exact ⟨F2 ++ F1, ⟨F2, F1, h2, h1, fun k hk hk' => h3 k hk' hk, rfl⟩, fun k hk => by simp only [List.mem_append] at hk ⊢; exact hk.symm⟩
theorem Ent.assoc (p q r : Pc) : Ent ((p.star q).star r) (p.star (q.star r)) := by
  rintro w F ⟨F12, F3, ⟨F1, F2, h1, h2, h3, rfl⟩, h4, h5, rfl⟩
  exact ⟨F1 ++ (F2 ++ F3), ⟨F1, F2 ++ F3, h1, ⟨F2, F3, h2, h4, fun k hk => h5 k (List.mem_append_right _ hk), rfl⟩, fun k hk hk' => by
    rcases List.mem_append.1 hk' with h | h
    · exact h3 k hk h
    · exact h5 k (List.mem_append_left _ hk) h, rfl⟩, fun k hk => by simpa [or_assoc] using hk⟩
theorem Ent.assoc' (p q r : Pc) : Ent (p.star (q.star r)) ((p.star q).star r) := by
  rintro w F ⟨F1, F23, h1, ⟨F2, F3, h2, h4, h5, rfl⟩, h3, rfl⟩
  exact ⟨(F1 ++ F2) ++ F3, ⟨F1 ++ F2, F3, ⟨F1, F2, h1, h2, fun k hk hk' => h3 k hk (List.mem_append_left _ hk'), rfl⟩, h4, fun k hk hk' => by
    rcases List.mem_append.1 hk with h | h
    · exact h3 k h (List.mem_append_right _ hk')
    · exact h5 k h hk', rfl⟩, fun k hk => by simpa [or_assoc] using hk⟩
theorem Ent.mono {p q p' q' : Pc} (h : Ent p p') (k : Ent q q') : Ent (p.star q) (p'.star q') := by
  rintro w F ⟨F1, F2, h1, h2, h3, rfl⟩
  obtain ⟨G1, g1, g2⟩ := h w F1 h1
  obtain ⟨G2, g3, g4⟩ := k w F2 h2
  exact ⟨G1 ++ G2, ⟨G1, G2, g1, g3, fun x hx hx' => h3 x (g2 x hx) (g4 x hx'), rfl⟩, fun x hx => by
    rcases List.mem_append.1 hx with h | h
    · exact List.mem_append_left _ (g2 x h)
    · exact List.mem_append_right _ (g4 x h)⟩
theorem Ent.left (p q : Pc) : Ent (p.star q) p := by
  rintro w F ⟨F1, F2, h1, _, _, rfl⟩
  exact ⟨F1, h1, fun k hk => List.mem_append_left _ hk⟩
theorem Ent.right (p q : Pc) : Ent (p.star q) q := (Ent.comm p q).trans (Ent.left q p)
theorem Ent.emp (p : Pc) : Ent p (p.star emp) := fun _ F h => ⟨F ++ [], ⟨F, [], h, (rfl : ([] : List Nat) = []), by simp, rfl⟩, fun k hk => by simpa using hk⟩
/-- The second piece to the front. -/
theorem Ent.swap (p q r : Pc) : Ent (p.star (q.star r)) (q.star (p.star r)) := (Ent.assoc' p q r).trans (((Ent.comm p q).mono (Ent.refl r)).trans (Ent.assoc q p r))
theorem Ent.ex {α : Type} {p : α → Pc} {q : Pc} (h : ∀ x, Ent (p x) q) : Ent (Pc.ex p) q := fun w F ⟨x, hx⟩ => h x w F hx
theorem Ent.to {α : Type} {p : α → Pc} {q : Pc} (x : α) (h : Ent q (p x)) : Ent q (Pc.ex p) := fun w F hq => by
  obtain ⟨F', h1, h2⟩ := h w F hq
  exact ⟨F', ⟨x, h1⟩, h2⟩
end Pc

/-- The piece stands, of blocks of F and new ones; nothing but blocks of F, and new ones, has changed since w. -/
def Post (p : Pc) (w : World) (F : List Nat) (w' : World) : Prop := ∃ F', p.A w' F' ∧ Mods F w w' ∧ ∀ k ∈ F', k ∈ F ∨ w.heap.size ≤ k
section
variable {p q r : Pc} {w0 w w' : World} {F : List Nat}
theorem Post.start (h : p.A w F) : Post p w F w := ⟨F, h, Mods.refl _ _, fun _ hk => Or.inl hk⟩
theorem Post.mods (h : Post p w0 F w) : Mods F w0 w := by
  obtain ⟨_, _, h, _⟩ := h
  exact h
theorem Post.ent (h : Post p w0 F w) (e : Pc.Ent p q) : Post q w0 F w := by
  obtain ⟨F1, h1, h2, h3⟩ := h
  obtain ⟨F2, h4, h5⟩ := e w F1 h1
  exact ⟨F2, h4, h2, fun k hk => h3 k (h5 k hk)⟩
theorem Post.still (h : Post p w0 F w) (hm : Mods [] w w') : Post p w0 F w' := by
  obtain ⟨F1, h1, h2, h3⟩ := h
  exact ⟨F1, p.mods h1 hm (by simp), h2.trans hm (by simp), h3⟩
/-- The front piece has turned. -/
theorem Post.step (h : Post (p.star r) w0 F w) (hc : ∀ F1, p.A w F1 → Post q w F1 w') : Post (q.star r) w0 F w' := by
  obtain ⟨F12, ⟨F1, F2, h1, h2, h3, rfl⟩, h4, h5⟩ := h
  obtain ⟨G, g1, g2, g3⟩ := hc F1 h1
  refine ⟨G ++ F2, ⟨G, F2, g1, r.mods h2 g2 (fun k hk hk' => h3 k hk' hk), fun k hk hk' => ?_, rfl⟩, h4.trans g2 (fun b hb => h5 b (List.mem_append_left _ hb)), fun k hk => ?_⟩
  · rcases g3 k hk with h | h
    · exact h3 k h hk'
    · have := r.lt h2 k hk'
      omega
  · rcases List.mem_append.1 hk with hk | hk
    · rcases g3 k hk with h | h
      · exact h5 k (List.mem_append_left _ h)
      · exact Or.inr (Nat.le_trans h4.size h)
    · exact h5 k (List.mem_append_right _ hk)
/-- A piece more, of new blocks. -/
theorem Post.add {G : List Nat} (h : Post p w0 F w) (hm : Mods [] w w') (hq : q.A w' G) (hG : ∀ k ∈ G, w.heap.size ≤ k) : Post (q.star p) w0 F w' := by
  obtain ⟨F1, h1, h2, h3⟩ := h
  refine ⟨G ++ F1, ⟨G, F1, hq, p.mods h1 hm (by simp), fun k hk hk' => ?_, rfl⟩, h2.trans hm (by simp), fun k hk => ?_⟩
  · have := p.lt h1 k hk'
    have := hG k hk
    omega
  · rcases List.mem_append.1 hk with hk | hk
    · exact Or.inr (Nat.le_trans h2.size (hG k hk))
    · exact h3 k hk
theorem Post.alloc (h : Post p w0 F w) (o : Obj) : Post ((Pc.blk w.heap.size o).star p) w0 F (w.alloc o) :=
  h.add ((Mods.refl [] _).alloc o) (G := [w.heap.size]) ⟨heap_alloc_new w o, rfl⟩ (by simp)
theorem Post.front (h : Post (p.star r) w0 F w) : ∃ F1, p.A w F1 := by
  obtain ⟨_, ⟨F1, _, h1, _⟩, _⟩ := h
  exact ⟨F1, h1⟩
variable {P : Program} {f : FuncId} {args : Array Value}
/-- A call of which the front piece is turned, and nothing else. -/
theorem Post.call {x : Value} (h : Post (p.star r) w0 F w) (hc : ∀ F1, p.A w F1 → Calls P f args w fun e w' => e = .returned x ∧ Post q w F1 w') :
    Calls P f args w fun e w' => e = .returned x ∧ Post (q.star r) w0 F w' := by
  have h' := h
  obtain ⟨F12, ⟨F1, F2, h1, h2, h3, rfl⟩, h4, h5⟩ := h
  refine (hc F1 h1).mono fun e w' hh => ⟨hh.1, ?_⟩
  obtain ⟨G, g1, g2, g3⟩ := hh.2
  refine ⟨G ++ F2, ⟨G, F2, g1, r.mods h2 g2 (fun k hk hk' => h3 k hk' hk), fun k hk hk' => ?_, rfl⟩, h4.trans g2 (fun b hb => h5 b (List.mem_append_left _ hb)), fun k hk => ?_⟩
  · rcases g3 k hk with h | h
    · exact h3 k h hk'
    · have := r.lt h2 k hk'
      omega
  · rcases List.mem_append.1 hk with hk | hk
    · rcases g3 k hk with h | h
      · exact h5 k (List.mem_append_left _ h)
      · exact Or.inr (Nat.le_trans h4.size h)
    · exact h5 k (List.mem_append_right _ hk)
/-- The same, of a call whose value is known by what it says alone. -/
theorem Post.callx {α : Type} {val : α → Value} {q : α → Pc} (h : Post (p.star r) w0 F w) (hc : ∀ F1, p.A w F1 → Calls P f args w fun e w' => ∃ x, e = .returned (val x) ∧ Post (q x) w F1 w') :
    Calls P f args w fun e w' => ∃ x, e = .returned (val x) ∧ Post ((q x).star r) w0 F w' := by
  obtain ⟨F12, ⟨F1, F2, h1, h2, h3, rfl⟩, h4, h5⟩ := h
  refine (hc F1 h1).mono fun e w' hh => ?_
  obtain ⟨x, hx, G, g1, g2, g3⟩ := hh
  refine ⟨x, hx, G ++ F2, ⟨G, F2, g1, r.mods h2 g2 (fun k hk hk' => h3 k hk' hk), fun k hk hk' => ?_, rfl⟩, h4.trans g2 (fun b hb => h5 b (List.mem_append_left _ hb)), fun k hk => ?_⟩
  · rcases g3 k hk with h | h
    · exact h3 k h hk'
    · have := r.lt h2 k hk'
      omega
  · rcases List.mem_append.1 hk with hk | hk
    · rcases g3 k hk with h | h
      · exact h5 k (List.mem_append_left _ h)
      · exact Or.inr (Nat.le_trans h4.size h)
    · exact h5 k (List.mem_append_right _ hk)
/-- A call that changes nothing old, whatever it yields. -/
theorem Post.still_call {Q : Ending → World → Prop} (h : Post p w0 F w) (hc : Calls P f args w Q) (hq : ∀ e w', Q e w' → Mods [] w w') : Calls P f args w fun e w' => Q e w' ∧ Post p w0 F w' :=
  hc.mono fun e w' hh => ⟨hh, h.still (hq e w' hh)⟩
end
end Go.Proofs.YtmcekhgmmocajaaGreatDoor.Me
