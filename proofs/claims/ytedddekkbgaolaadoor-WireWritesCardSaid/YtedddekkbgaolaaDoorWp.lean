/- Pairs of writers, in two rows of pointers, and the Book beside them: one step, one turn. -/
import Derived.Test.YtedddekkbgaolaaDoorLk
import Derived.Test.YtedddekkbgaolaaDoorSy
namespace Go.Proofs.YtedddekkbgaolaaDoor
open Go.RowKit Me

/-- A pair, of like state. -/
structure Pair where
  a : Nat
  c : Nat
  S : WSt
def Pair.p (x : Pair) : Value := .pointer (some ⟨x.a, 0, none⟩)
def Pair.q (x : Pair) : Value := .pointer (some ⟨x.c, 0, none⟩)
def pairP (x : Pair) : Pc := (Wr 122 x.a x.S).star (Wr 124 x.c x.S)
def pairs : List Pair → Pc
  | [] => Pc.emp
  | x :: P => (pairP x).star (pairs P)
theorem pairs_snoc : ∀ (P : List Pair) (x : Pair), Pc.Ent ((pairP x).star (pairs P)) (pairs (P ++ [x]))
  | [], _ => Pc.Ent.refl _
  | _ :: P, x => (Pc.Ent.swap _ _ _).trans ((Pc.Ent.refl _).mono (pairs_snoc P x))
theorem pairs_take : ∀ (P : List Pair) (k : Nat) (x : Pair), P[k]? = some x → Pc.Ent (pairs P) ((pairP x).star (pairs (P.eraseIdx k)))
  | [], _, _, h => by simp at h
  | y :: P, 0, x, h => by
    simp at h
    subst h
    exact Pc.Ent.refl _
  | y :: P, k + 1, x, h => ((Pc.Ent.refl _).mono (pairs_take P k x (by simpa using h))).trans (Pc.Ent.swap _ _ _)
theorem pairs_put : ∀ (P : List Pair) (k : Nat) (x y : Pair), P[k]? = some x → Pc.Ent ((pairP y).star (pairs (P.eraseIdx k))) (pairs (P.set k y))
  | [], _, _, _, h => by simp at h
  | z :: P, 0, x, y, h => Pc.Ent.refl _
  | z :: P, k + 1, x, y, h => (Pc.Ent.swap _ _ _).trans ((Pc.Ent.refl _).mono (pairs_put P k x y (by simpa using h)))
/-- The two rows. -/
def rows2 (vw vv : Value) (P : List Pair) : Pc := (Pc.row 34 1 vw P.length (P.map Pair.p)).star (Pc.row 38 1 vv P.length (P.map Pair.q))
def S6 (vw vv : Value) (P : List Pair) (K : Pc) : Pc := K.star ((pairs P).star (rows2 vw vv P))
theorem rows2_set {vw vv : Value} {P : List Pair} {k : Nat} {x : Pair} (h : P[k]? = some x) (S : WSt) : rows2 vw vv (P.set k ⟨x.a, x.c, S⟩) = rows2 vw vv P := by
  have e : ∀ f : Pair → Value, f ⟨x.a, x.c, S⟩ = f x → (P.set k ⟨x.a, x.c, S⟩).map f = P.map f := fun f hf => by
    rw [List.map_set, hf]
    refine List.ext_getElem? fun i => ?_
    rw [List.getElem?_set]
    split
    · rename_i hi
      subst hi
      obtain ⟨hk, hx⟩ := List.getElem?_eq_some_iff.1 h
      rw [if_pos (by simpa using hk), List.getElem?_map, h]
      rfl
    · rfl
  unfold rows2
  rw [List.length_set, e Pair.p rfl, e Pair.q rfl]
theorem ent_front (n s e z r : Pc) : Pc.Ent ((n.star s).star (((z.star e)).star r)) ((z.star n).star (s.star (e.star r))) := by
  refine ((Pc.Ent.comm n s).mono (Pc.Ent.assoc z e r)).trans ?_
  refine (Pc.Ent.assoc s n _).trans ?_
  refine ((Pc.Ent.refl s).mono ((Pc.Ent.assoc' n z _).trans ((Pc.Ent.comm n z).mono (Pc.Ent.refl _)))).trans ?_
  exact Pc.Ent.swap s (z.star n) (e.star r)
theorem ent_back (n s e z r : Pc) : Pc.Ent ((z.star n).star (s.star (e.star r))) ((n.star s).star (((z.star e)).star r)) := by
  refine (Pc.Ent.swap (z.star n) s (e.star r)).trans ?_
  refine ((Pc.Ent.refl s).mono (((Pc.Ent.comm z n).mono (Pc.Ent.refl _)).trans (Pc.Ent.assoc n z _))).trans ?_
  refine (Pc.Ent.assoc' s n _).trans ?_
  exact (Pc.Ent.comm s n).mono (Pc.Ent.assoc' z e r)
/-- The k-th pair and the fresh rows in front. -/
theorem S6.open {w0 w : World} {vw vv : Value} {P : List Pair} {b k : Nat} {x : Pair} {E : List En} {H I : List It} (h : Post (S6 vw vv P (BkA b E H I)) w0 [] w) (hx : P[k]? = some x) :
    ∃ vl vm vh vt, Post ((W3 x.a x.c b vl vm vh vt x.S x.S (I.map It.bs)).star ((BkS vl vm vh vt E H).star ((pairs (P.eraseIdx k)).star (rows2 vw vv P)))) w0 [] w := by
  have h1 := h.ent (bkA_open.mono ((pairs_take P k x hx).mono (Pc.Ent.refl _)))
  obtain ⟨F1, ⟨F2, F3, ⟨⟨vl, vm, vh, vt⟩, h2⟩, h3, h4, rfl⟩, h5, h6⟩ := h1
  have h7 : Post (((BkN b vl vm vh vt (I.map It.bs)).star (BkS vl vm vh vt E H)).star (((pairP x).star (pairs (P.eraseIdx k))).star (rows2 vw vv P))) w0 [] w := ⟨_, ⟨F2, F3, h2, h3, h4, rfl⟩, h5, h6⟩
  exact ⟨vl, vm, vh, vt, h7.ent ((ent_front _ _ _ _ _).trans ((Pc.Ent.assoc _ _ _).mono (Pc.Ent.refl _)))⟩
theorem S6.shut {w0 w : World} {vw vv vl vm vh vt : Value} {P : List Pair} {b k : Nat} {x : Pair} {S : WSt} {E : List En} {H : List It} {B : List (List UInt8)} (hx : P[k]? = some x)
    (h : Post ((W3 x.a x.c b vl vm vh vt S S B).star ((BkS vl vm vh vt E H).star ((pairs (P.eraseIdx k)).star (rows2 vw vv P)))) w0 [] w) :
    ∃ I : List It, I.map It.bs = B ∧ Post (S6 vw vv (P.set k ⟨x.a, x.c, S⟩) (BkA b E H I)) w0 [] w := by
  have h1 := h.ent (((Pc.Ent.assoc' (Wr 122 x.a S) (Wr 124 x.c S) (BkN b vl vm vh vt B)).mono (Pc.Ent.refl _)).trans (ent_back _ _ _ _ _))
  have h2 := h1.ent (bkA_shut.mono ((pairs_put P k x ⟨x.a, x.c, S⟩ hx).mono (Pc.Ent.refl _)))
  obtain ⟨F1, ⟨F2, F3, ⟨I, hI, h2⟩, h3, h4, rfl⟩, h5, h6⟩ := h2
  refine ⟨I, hI, ?_⟩
  unfold S6
  rw [rows2_set hx]
  exact ⟨_, ⟨F2, F3, h2, h3, h4, rfl⟩, h5, h6⟩
/-- A step of writes. -/
theorem S6.step {w0 w : World} {vw vv vb : Value} {P : List Pair} {b k : Nat} {x : Pair} {E : List En} {H : List It} (h : Post (S6 vw vv P (BkA b E H [])) w0 [] w) (hx : P[k]? = some x) (hT : Lib.Utf8Tabs 0 1 w0) (o : OpP) (ho : o.Fits) (hb : o.b.length ≤ 33554432) (hs : o.s.size ≤ 33554432) (hr : Rd w0 vb (o.b.map byteV)) :
    Calls Tryd.prog 25 #[x.p, x.q, opV o vb, .pointer (some ⟨b, 0, none⟩)] w fun e w' => e = .returned (.bool true) ∧ ∃ I : List It, I.map It.bs = x.S.outs o ∧ Post (S6 vw vv (P.set k ⟨x.a, x.c, x.S.wr o⟩) (BkA b E H I)) w0 [] w' := by
  obtain ⟨vl, vm, vh, vt, h1⟩ := S6.open h hx
  refine (Post.calln (Q := fun q _ _ e _ => q = W3 x.a x.c b vl vm vh vt (x.S.wr o) (x.S.wr o) (x.S.outs o) ∧ e = .returned (.bool true)) h1 fun F1 hF hm => ?_).mono ?_
  · refine (writes_any hF (by simp) o ⟨ho.n, ho.k, by omega, by omega, fun w' h' => hr.mods (hm w' h').mods (by simp), fun w' h' => tabs_mods (hm w' h').mods hT⟩).mono ?_
    rintro e w' ⟨res, S', V', hw, he, hp⟩
    obtain ⟨hr1, rfl, rfl⟩ := hw.both rfl
    subst hr1
    exact ⟨_, ⟨rfl, he⟩, by simpa using hp⟩
  · rintro e w' ⟨q, F1, ⟨rfl, he⟩, hp⟩
    exact ⟨he, S6.shut hx hp⟩
/-- Done of a pair. -/
theorem S6.done {w0 w : World} {vw vv : Value} {P : List Pair} {b k : Nat} {x : Pair} {E : List En} {H I : List It} (h : Post (S6 vw vv P (BkA b E H I)) w0 [] w) (hx : P[k]? = some x) (hI : I.length ≤ 99999998) :
    Calls Tryd.prog 27 #[x.p, x.q, .pointer (some ⟨b, 0, none⟩)] w fun e w' => e = .returned (.bool true) ∧ ∃ I' : List It, I'.map It.bs = I.map It.bs ++ [x.S.done.1] ++ [x.S.done.1] ∧ Post (S6 vw vv P (BkA b E H I')) w0 [] w' := by
  obtain ⟨vl, vm, vh, vt, h1⟩ := S6.open h hx
  refine (Post.calln (Q := fun q _ _ e _ => q = W3 x.a x.c b vl vm vh vt x.S x.S (I.map It.bs ++ [x.S.done.1] ++ [x.S.done.1]) ∧ e = .returned (.bool true)) h1 fun F1 hF hm => ?_).mono ?_
  · refine (done2_any hF (by simpa using hI)).mono ?_
    rintro e w' ⟨res, hr1, he, hp⟩
    rw [hr1 rfl] at he
    exact ⟨_, ⟨rfl, he⟩, hp⟩
  · rintro e w' ⟨q, F1, ⟨rfl, he⟩, hp⟩
    obtain ⟨I', hI', hp'⟩ := S6.shut hx hp
    have e : P.set k ⟨x.a, x.c, x.S⟩ = P := List.ext_getElem? fun i => by
      rw [List.getElem?_set]
      split
      · rename_i hi
        subst hi
        obtain ⟨hk, hx'⟩ := List.getElem?_eq_some_iff.1 hx
        rw [if_pos hk, hx]
      · rfl
    rw [e] at hp'
    exact ⟨he, I', hI', hp'⟩
end Go.Proofs.YtedddekkbgaolaaDoor
