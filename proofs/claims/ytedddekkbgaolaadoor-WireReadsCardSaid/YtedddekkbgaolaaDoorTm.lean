/- Parts of the Book's turn. -/
import Derived.Test.YtedddekkbgaolaaDoorBk2
import Derived.Deep.CutBlock
namespace Go.Proofs.YtedddekkbgaolaaDoor
open Go.RowKit Me

theorem Me.Post.any {p : Pc} {w0 w : World} {F : List Nat} (h : Post p w0 F w) : ∃ F1, p.A w F1 := by
  obtain ⟨F1, h1, _⟩ := h
  exact ⟨F1, h1⟩
def enV (E : List En) : List Value := E.map En.v
def enM (E : List En) : List Value := E.map fun e => byteV e.m
theorem enV_len (E : List En) : (enV E).length = E.length := by simp [enV]
theorem enM_len (E : List En) : (enM E).length = E.length := by simp [enM]
/-- The Book, its rows at these places; beside it what lies in them. -/
def CoE (b : Nat) (vl vm vh vt vf vw : Value) (E : List En) (H I : List It) : Pc := Co b #[vl, vm, vh, vt, vf, vw] vl vm vh vt vf vw (enV E) (enM E) (H.map It.v) (H.map It.u) (I.map It.v) (I.map It.u)
def BkA (b : Nat) (E : List En) (H I : List It) : Pc := Pc.ex fun v : Value × Value × Value × Value × Value × Value => (CoE b v.1 v.2.1 v.2.2.1 v.2.2.2.1 v.2.2.2.2.1 v.2.2.2.2.2 E H I).star ((MkE E).star ((items H).star (items I)))
theorem Me.Post.exs {α : Type} {p : α → Pc} {w0 w : World} {F : List Nat} (h : Post (Pc.ex p) w0 F w) : ∃ x, Post (p x) w0 F w := by
  obtain ⟨F1, ⟨x, h1⟩, h2, h3⟩ := h
  exact ⟨x, F1, h1, h2, h3⟩
theorem enV_app (E N : List En) : enV (E ++ N) = enV E ++ enV N := by simp [enV]
theorem enM_app (E N : List En) : enM (E ++ N) = enM E ++ enM N := by simp [enM]
def StN (b : Nat) (vh vt vf vw : Value) (E N : List En) (H I : List It) (k : Nat) : Pc :=
  Pc.ex fun v : Value × Value => (Co b #[v.1, v.2, vh, vt, vf, vw] v.1 v.2 vh vt vf vw (enV (E ++ N)) (enM (E ++ N)) (H.map It.v) (H.map It.u) (I.map It.v) (I.map It.u)).star ((MkE E).star ((News N).star ((items (H.drop k)).star (items I))))
def RelB2 (b : Nat) (vh vt vf vw : Value) (E : List En) (H I : List It) (w : World) (F : List Nat) (i : Value) (wr : World) : Prop :=
  ∃ (k : Nat) (N : List En), k ≤ H.length ∧ i = .int .i64 k ∧ N.length = k ∧ (∀ e ∈ N, e.n ≤ 100000000) ∧ Post (StN b vh vt vf vw E N H I k) w F wr
def RelC2 (X : List Value → Pc) (M : UInt8) (bs : List UInt8) (w : World) (F : List Nat) (i : Value) (wr : World) : Prop :=
  ∃ j : Nat, j ≤ bs.length ∧ i = .int .i64 j ∧ Post (X (markL j M ++ (bs.drop j).map byteV)) w F wr
theorem mark_step {M : UInt8} {bs : List UInt8} {j : Nat} (h : j < bs.length) : (markL j M ++ (bs.drop j).map byteV).set j (byteV M) = markL (j + 1) M ++ (bs.drop (j + 1)).map byteV := by
  have e : bs.drop j = bs[j] :: bs.drop (j + 1) := List.drop_eq_getElem_cons h
  rw [List.set_append_right _ _ (by rw [markL_len]; omega), markL_len, Nat.sub_self, e, markL_snoc, List.map_cons, List.set_cons_zero, List.append_assoc]
  rfl
theorem ent_take (a e n x z i : Pc) (u : Pc) : Pc.Ent (a.star (e.star (n.star (((x.star u).star z).star i)))) (a.star (x.star (e.star (n.star (z.star i))))) := by
  refine (Pc.Ent.refl a).mono ?_
  refine ((Pc.Ent.refl e).mono ((Pc.Ent.refl n).mono ((((Pc.Ent.left x u).mono (Pc.Ent.refl z)).mono (Pc.Ent.refl i)).trans (Pc.Ent.assoc _ _ _)))).trans (Pc.Ent.at3 _ _ _ _)
theorem ent_give (x e n n' z : Pc) (h : Pc.Ent (x.star n) n') : Pc.Ent (x.star (e.star (n.star z))) (e.star (n'.star z)) :=
  (Pc.Ent.swap _ _ _).trans ((Pc.Ent.refl e).mono ((Pc.Ent.assoc' _ _ _).trans (h.mono (Pc.Ent.refl z))))
theorem stN_next {b : Nat} {vh vt vf vw ul um x : Value} {E N : List En} {H I : List It} {n : Nat} {M : UInt8} {w w' : World} {F : List Nat}
    (h : Post ((Co b #[ul, um, vh, vt, vf, vw] ul um vh vt vf vw (enV (E ++ N) ++ [x]) (enM (E ++ N) ++ [byteV M]) (H.map It.v) (H.map It.u) (I.map It.v) (I.map It.u)).star ((Pc.row 5 1 x n (markL n M)).star ((MkE E).star ((News N).star ((items (H.drop (N.length + 1))).star (items I)))))) w F w')
    (hlt : N.length < H.length) (hb : ∀ e ∈ N, e.n ≤ 100000000) (hn : n ≤ 100000000) : RelB2 b vh vt vf vw E H I w F (.int .i64 ((N.length : Int) + 1)) w' := by
  refine ⟨N.length + 1, N ++ [⟨x, n, M⟩], by omega, rfl, by simp, fun e he => ?_, ?_⟩
  · rcases List.mem_append.1 he with he | he
    · exact hb e he
    · simp at he
      subst he
      exact hn
  · refine h.ent (Pc.Ent.to (ul, um) ?_)
    have e1 : enV (E ++ (N ++ [⟨x, n, M⟩])) = enV (E ++ N) ++ [x] := by simp [enV]
    have e2 : enM (E ++ (N ++ [⟨x, n, M⟩])) = enM (E ++ N) ++ [byteV M] := by simp [enM]
    rw [e1, e2]
    exact (Pc.Ent.refl _).mono (ent_give _ _ _ _ _ (news_snoc N ⟨x, n, M⟩))
theorem MkE.sub {E1 E2 : List En} (h : ∀ e ∈ E2, e ∈ E1) : Pc.Ent (MkE E1) (MkE E2) := by
  rintro w F ⟨h1, rfl⟩
  refine ⟨_, ⟨fun e he => h1 e (h e he), rfl⟩, fun k hk => ?_⟩
  obtain ⟨e, he, hk⟩ := List.mem_flatMap.1 hk
  exact List.mem_flatMap.2 ⟨e, h e he, hk⟩
def StG (b : Nat) (vh vt vf vw : Value) (E N G D R : List En) (H I : List It) : Pc :=
  Pc.ex fun v : Value × Value => (Co b #[v.1, v.2, vh, vt, vf, vw] v.1 v.2 vh vt vf vw (enV (E ++ N ++ G)) (enM (E ++ N ++ G)) (H.map It.v) (H.map It.u) (I.map It.v) (I.map It.u)).star ((MkE E).star ((MkE D).star ((News R).star (items I))))
def StH (b : Nat) (vh vt vf vw : Value) (E N G D R Es : List En) (g : Value) (n : Nat) (m : UInt8) (H I : List It) (vl vm : Value) : Pc :=
  (Co b #[vl, vm, vh, vt, vf, vw] vl vm vh vt vf vw (enV (E ++ N ++ G)) (enM (E ++ N ++ G)) (H.map It.v) (H.map It.u) (I.map It.v) (I.map It.u)).star ((Grp g n m Es).star ((MkE E).star ((MkE D).star ((News R).star (items I)))))
def StF (b : Nat) (vh vt vf vw : Value) (E : List En) (H I : List It) : Pc :=
  Pc.ex fun v : Value × Value => (Co b #[v.1, v.2, vh, vt, vf, vw] v.1 v.2 vh vt vf vw (enV E) (enM E) (H.map It.v) (H.map It.u) (I.map It.v) (I.map It.u)).star ((MkE E).star (items I))
def RelD (b : Nat) (vh vt vf vw : Value) (E N : List En) (H I : List It) (w : World) (F : List Nat) (i : Value) (wr : World) : Prop :=
  ∃ (t : Nat) (G D : List En), t ≤ N.length ∧ i = .int .i64 ((E.length : Int) + (t : Int)) ∧ G.length ≤ 4 * t ∧ (∀ e ∈ N.take t ++ G, e ∈ D) ∧ Post (StG b vh vt vf vw E N G D (N.drop t) H I) w F wr
def cnt (j : Nat) : Nat := (if 1 ≤ j then 1 else 0) + (if 4 ≤ j then 1 else 0) + (if 16 ≤ j then 1 else 0) + (if 70 ≤ j then 1 else 0)
def RelE (b : Nat) (vh vt vf vw : Value) (E N G D R : List En) (e : En) (H I : List It) (w : World) (F : List Nat) (g k : Value) (wr : World) : Prop :=
  ∃ (j : Nat) (Gx Es : List En) (vl vm : Value), j ≤ 70 ∧ k = .int .i64 j ∧ Gx.length ≤ cnt j ∧ (∀ x ∈ e :: Gx, x ∈ Es) ∧ Post (StH b vh vt vf vw E N (G ++ Gx) D R Es g (e.n + j) e.m H I vl vm) w F wr
theorem cnt_le (j : Nat) : cnt j ≤ 4 := by
  unfold cnt
  split <;> split <;> split <;> split <;> omega
theorem cnt_step {j : Nat} (h : j ≠ 0 ∧ j ≠ 3 ∧ j ≠ 15 ∧ j ≠ 69) : cnt (j + 1) = cnt j := by
  unfold cnt
  have h1 : (1 ≤ j + 1) = (1 ≤ j) := by rw [eq_iff_iff]; omega
  have h2 : (4 ≤ j + 1) = (4 ≤ j) := by rw [eq_iff_iff]; omega
  have h3 : (16 ≤ j + 1) = (16 ≤ j) := by rw [eq_iff_iff]; omega
  have h4 : (70 ≤ j + 1) = (70 ≤ j) := by rw [eq_iff_iff]; omega
  simp only [h1, h2, h3, h4]
theorem cnt_up {j : Nat} (h : ¬ (j ≠ 0 ∧ j ≠ 3 ∧ j ≠ 15 ∧ j ≠ 69)) : cnt (j + 1) = cnt j + 1 ∧ ((((j : Int) == 0) = true) ∨ (((j : Int) == 0) = false ∧ ((j : Int) == 3) = true) ∨ (((j : Int) == 0) = false ∧ ((j : Int) == 3) = false ∧ ((j : Int) == 15) = true) ∨ (((j : Int) == 0) = false ∧ ((j : Int) == 3) = false ∧ ((j : Int) == 15) = false ∧ ((j : Int) == 69) = true)) := by
  have h' : j = 0 ∨ j = 3 ∨ j = 15 ∨ j = 69 := by omega
  rcases h' with rfl | rfl | rfl | rfl
  · exact ⟨rfl, Or.inl rfl⟩
  · exact ⟨rfl, Or.inr (Or.inl ⟨rfl, rfl⟩)⟩
  · exact ⟨rfl, Or.inr (Or.inr (Or.inl ⟨rfl, rfl, rfl⟩))⟩
  · exact ⟨rfl, Or.inr (Or.inr (Or.inr ⟨rfl, rfl, rfl, rfl⟩))⟩
theorem relE_note {b : Nat} {vh vt vf vw zl zm g2 : Value} {E N G D R Gx Es : List En} {e : En} {H I : List It} {w w' : World} {F : List Nat} {j : Nat} (hj : j < 70) (hx : Gx.length ≤ cnt j) (hc : cnt (j + 1) = cnt j + 1) (hE : ∀ x ∈ e :: Gx, x ∈ Es)
    (h : Post ((Co b #[zl, zm, vh, vt, vf, vw] zl zm vh vt vf vw (enV (E ++ N ++ (G ++ Gx)) ++ [g2]) (enM (E ++ N ++ (G ++ Gx)) ++ [byteV e.m]) (H.map It.v) (H.map It.u) (I.map It.v) (I.map It.u)).star ((Grp g2 (e.n + j + 1) e.m Es).star ((MkE E).star ((MkE D).star ((News R).star (items I)))))) w F w') :
    RelE b vh vt vf vw E N G D R e H I w F g2 (.int .i64 ((j : Int) + 1)) w' := by
  refine ⟨j + 1, Gx ++ [⟨g2, e.n + j + 1, e.m⟩], Es ++ [⟨g2, e.n + j + 1, e.m⟩], zl, zm, by omega, rfl, by rw [List.length_append, List.length_singleton, hc]; omega, fun x hxx => ?_, h.ent ?_⟩
  · simp only [List.mem_cons, List.mem_append, List.not_mem_nil, or_false] at hxx ⊢
    rcases hxx with hh | hh | hh
    · exact Or.inl (hE x (by simp [hh]))
    · exact Or.inl (hE x (by simp [hh]))
    · exact Or.inr hh
  · unfold StH
    have e1 : enV (E ++ N ++ (G ++ (Gx ++ [⟨g2, e.n + j + 1, e.m⟩]))) = enV (E ++ N ++ (G ++ Gx)) ++ [g2] := by simp [enV]
    have e2 : enM (E ++ N ++ (G ++ (Gx ++ [⟨g2, e.n + j + 1, e.m⟩]))) = enM (E ++ N ++ (G ++ Gx)) ++ [byteV e.m] := by simp [enM]
    rw [e1, e2]
    exact (Pc.Ent.refl _).mono ((Grp.note _ _ _ _).mono (Pc.Ent.refl _))
theorem stG_next {b : Nat} {vh vt vf vw vl vm g : Value} {E N G D Gx Es : List En} {e : En} {H I : List It} {t n : Nat} {w w' : World} {F : List Nat} (ht : t < N.length) (he : N[t]? = some e) (hG : G.length ≤ 4 * t) (hx : Gx.length ≤ 4) (hD : ∀ x ∈ N.take t ++ G, x ∈ D) (hE : ∀ x ∈ e :: Gx, x ∈ Es)
    (h : Post (StH b vh vt vf vw E N (G ++ Gx) D (N.drop (t + 1)) Es g n e.m H I vl vm) w F w') : RelD b vh vt vf vw E N H I w F (.int .i64 ((E.length : Int) + (t : Int) + 1)) w' := by
  refine ⟨t + 1, G ++ Gx, Es ++ D, by omega, by first | rfl | (congr 1; omega), by rw [List.length_append]; omega, fun x hxx => ?_, h.ent (Pc.Ent.to (vl, vm) ((Pc.Ent.refl _).mono ?_))⟩
  · rw [List.take_add_one, he] at hxx
    simp only [Option.toList_some, List.mem_append, List.mem_cons, List.not_mem_nil, or_false] at hxx ⊢
    rcases hxx with (hh | hh) | (hh | hh)
    · exact Or.inr (hD x (List.mem_append_left _ hh))
    · exact Or.inl (hE x (by simp [hh]))
    · exact Or.inr (hD x (List.mem_append_right _ hh))
    · exact Or.inl (hE x (List.mem_cons_of_mem _ hh))
  · exact ((Grp.stop g n e.m Es).mono (Pc.Ent.refl _)).trans (ent_give _ _ _ _ _ (MkE.join Es D))
theorem stF_of {b : Nat} {vh vt vf vw : Value} {E N G D : List En} {H I : List It} (hD : ∀ x ∈ N ++ G, x ∈ D) : Pc.Ent (StG b vh vt vf vw E N G D [] H I) (StF b vh vt vf vw (E ++ N ++ G) H I) := by
  refine Pc.Ent.ex fun v => Pc.Ent.to v ((Pc.Ent.refl _).mono ?_)
  refine (Pc.Ent.assoc' _ _ _).trans (((MkE.join E D).trans (MkE.sub fun e he => ?_)).mono (Pc.Ent.right _ _))
  simp only [List.mem_append] at he ⊢
  rcases he with (he | he) | he
  · exact Or.inl he
  · exact Or.inr (hD e (List.mem_append_left _ he))
  · exact Or.inr (hD e (List.mem_append_right _ he))
def RelA (X : Pc) (w : World) (F : List Nat) (n : Nat) (ok i : Value) (wr : World) : Prop := ∃ k : Nat, k ≤ n ∧ i = .int .i64 k ∧ ok = .bool true ∧ Post X w F wr
theorem nil_two (u : Pc) : Pc.Ent u (u.star ((Pc.row 43 1 (.slice none 0 0) 0 []).star (Pc.row 43 1 (.slice none 0 0) 0 []))) := fun w F h =>
  ⟨F ++ [], ⟨F, [], h, ⟨[], [], ⟨World.ownsRow_nil _ _ _ _, rfl⟩, ⟨World.ownsRow_nil _ _ _ _, rfl⟩, by simp, rfl⟩, by simp, rfl⟩, fun k hk => by simpa using hk⟩
theorem co_swap {b : Nat} {cs : Array Value} {vl vm vh vt vf vw : Value} {l m h t f u : List Value} : Pc.Ent (Co b cs vl vm vh vt vf vw l m h t f u) (Co b cs vl vm vf vw (.slice none 0 0) (.slice none 0 0) l m f u [] []) :=
  (Pc.Ent.refl _).mono ((Pc.Ent.refl _).mono ((Pc.Ent.refl _).mono ((Pc.Ent.right _ _).trans ((Pc.Ent.right _ _).trans ((Pc.Ent.refl _).mono (nil_two _))))))
def StE (b : Nat) (vl vm vf vw : Value) (E : List En) (I : List It) : Pc := (Co b #[vl, vm, vf, vw, .slice none 0 0, .slice none 0 0] vl vm vf vw (.slice none 0 0) (.slice none 0 0) (enV E) (enM E) (I.map It.v) (I.map It.u) [] []).star ((MkE E).star (items I))
theorem stE_bk {b : Nat} {vl vm vf vw : Value} {E : List En} {I : List It} : Pc.Ent (StE b vl vm vf vw E I) (BkA b E I []) :=
  Pc.Ent.to (vl, vm, vf, vw, .slice none 0 0, .slice none 0 0) ((Pc.Ent.refl _).mono ((Pc.Ent.refl _).mono (Pc.Ent.emp _)))
theorem stE_en {b : Nat} {vl vm vf vw : Value} {E : List En} {I : List It} {w0 w : World} {F : List Nat} (h : Post (StE b vl vm vf vw E I) w0 F w) {e : En} (he : e ∈ E) : Rd w e.v (markL e.n e.m) := by
  obtain ⟨F1, h1⟩ := (h.ent ((Pc.Ent.right _ _).trans (Pc.Ent.left _ _))).any
  exact (h1.1 e he).1
theorem co_f {b : Nat} {cs : Array Value} {vl vm vh vt vf vw : Value} {l m h t f u : List Value} {w0 w : World} {F : List Nat} {r : Pc} (hp : Post ((Co b cs vl vm vh vt vf vw l m h t f u).star r) w0 F w) : w.ownsRow 0 43 1 vf f.length f := hp.rowAt ((Pc.Ent.left _ _).trans ((Pc.Ent.right _ _).trans ((Pc.Ent.right _ _).trans ((Pc.Ent.right _ _).trans ((Pc.Ent.right _ _).trans ((Pc.Ent.right _ _).trans (Pc.Ent.left _ _)))))))
theorem co_u {b : Nat} {cs : Array Value} {vl vm vh vt vf vw : Value} {l m h t f u : List Value} {w0 w : World} {F : List Nat} {r : Pc} (hp : Post ((Co b cs vl vm vh vt vf vw l m h t f u).star r) w0 F w) : w.ownsRow 0 43 1 vw u.length u := hp.rowAt ((Pc.Ent.left _ _).trans ((Pc.Ent.right _ _).trans ((Pc.Ent.right _ _).trans ((Pc.Ent.right _ _).trans ((Pc.Ent.right _ _).trans ((Pc.Ent.right _ _).trans (Pc.Ent.right _ _)))))))
def RelP (X : Pc) (w : World) (F : List Nat) (n : Nat) (i : Value) (wr : World) : Prop := ∃ k : Nat, k ≤ n ∧ i = .int .i64 k ∧ Post X w F wr
end Go.Proofs.YtedddekkbgaolaaDoor
