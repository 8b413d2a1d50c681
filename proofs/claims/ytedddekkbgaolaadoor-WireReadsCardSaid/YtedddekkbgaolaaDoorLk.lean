/- The Book's fresh rows and all else of it, apart and together. -/
import Derived.Test.YtedddekkbgaolaaDoorTm
namespace Go.Proofs.YtedddekkbgaolaaDoor
open Go.RowKit Me

/-- The rows beside the fresh ones, what lies in them. -/
def BkS (vl vm vh vt : Value) (E : List En) (H : List It) : Pc :=
  ((Pc.row 43 1 vl E.length (enV E)).star ((Pc.row 5 1 vm E.length (enM E)).star ((Pc.row 43 1 vh H.length (H.map It.v)).star (Pc.row 43 1 vt H.length (H.map It.u))))).star ((MkE E).star (items H))
theorem ent_part (z y e h i : Pc) : Pc.Ent ((z.star y).star (e.star (h.star i))) ((z.star i).star (y.star (e.star h))) :=
  ((Pc.Ent.refl _).mono ((Pc.Ent.assoc' e h i).trans (Pc.Ent.comm _ _))).trans ((Pc.Ent.assoc _ _ _).trans (((Pc.Ent.refl z).mono (Pc.Ent.swap _ _ _)).trans (Pc.Ent.assoc' _ _ _)))
theorem ent_join (z y e h i : Pc) : Pc.Ent ((z.star i).star (y.star (e.star h))) ((z.star y).star (e.star (h.star i))) :=
  (Pc.Ent.assoc _ _ _).trans (((Pc.Ent.refl z).mono (Pc.Ent.swap _ _ _)).trans ((Pc.Ent.assoc' _ _ _).trans ((Pc.Ent.refl _).mono ((Pc.Ent.comm _ _).trans (Pc.Ent.assoc e h i)))))
theorem ent_fresh (k l m h t g : Pc) : Pc.Ent (k.star (l.star (m.star (h.star (t.star g))))) ((k.star g).star (l.star (m.star (h.star t)))) :=
  ((Pc.Ent.refl k).mono (((Pc.Ent.refl l).mono ((Pc.Ent.refl m).mono ((Pc.Ent.refl h).mono (Pc.Ent.comm t g)))).trans (Pc.Ent.at4 l m h g t))).trans (Pc.Ent.assoc' _ _ _)
theorem ent_fresh' (k l m h t g : Pc) : Pc.Ent ((k.star g).star (l.star (m.star (h.star t)))) (k.star (l.star (m.star (h.star (t.star g))))) :=
  (Pc.Ent.assoc _ _ _).trans ((Pc.Ent.refl k).mono ((Pc.Ent.swap _ _ _).trans ((Pc.Ent.refl l).mono ((Pc.Ent.swap _ _ _).trans ((Pc.Ent.refl m).mono ((Pc.Ent.swap _ _ _).trans ((Pc.Ent.refl h).mono (Pc.Ent.comm _ _))))))))
theorem bkA_open {b : Nat} {E : List En} {H I : List It} : Pc.Ent (BkA b E H I) (Pc.ex fun v : Value × Value × Value × Value => (BkN b v.1 v.2.1 v.2.2.1 v.2.2.2 (I.map It.bs)).star (BkS v.1 v.2.1 v.2.2.1 v.2.2.2 E H)) := by
  refine Pc.Ent.ex fun v => Pc.Ent.to (v.1, v.2.1, v.2.2.1, v.2.2.2.1) ?_
  obtain ⟨vl, vm, vh, vt, vf, vw⟩ := v
  have e : Pc.Ent ((CoE b vl vm vh vt vf vw E H I).star ((MkE E).star ((items H).star (items I)))) (((Pc.blk b (.cells #[vl, vm, vh, vt, vf, vw] 45)).star ((Pc.row 43 1 vf I.length (I.map It.v)).star ((Pc.row 43 1 vw I.length (I.map It.u)).star (items I)))).star (BkS vl vm vh vt E H)) := by
    unfold CoE Co BkS
    simp only [enV_len, enM_len, List.length_map]
    refine ((ent_fresh _ _ _ _ _ _).mono (Pc.Ent.refl _)).trans ((ent_part _ _ _ _ _).trans (Pc.Ent.mono ?_ (Pc.Ent.refl _)))
    exact (Pc.Ent.assoc _ _ _).trans ((Pc.Ent.refl _).mono (Pc.Ent.assoc _ _ _))
  refine e.trans (Pc.Ent.mono ?_ (Pc.Ent.refl _))
  exact Pc.Ent.to (p := fun I' : List It => Pc.when (I'.map It.bs = I.map It.bs) (BkF b vl vm vh vt I')) I (fun w F h => (Pc.Ent.to (p := fun vf => Pc.ex fun vw => (Pc.blk b (.cells #[vl, vm, vh, vt, vf, vw] 45)).star ((Pc.row 43 1 vf I.length (I.map It.v)).star ((Pc.row 43 1 vw I.length (I.map It.u)).star (items I)))) vf (Pc.Ent.to vw (Pc.Ent.refl _)) w F h).elim fun F1 h1 => ⟨F1, ⟨rfl, h1.1⟩, h1.2⟩)
theorem bkA_shut {b : Nat} {vl vm vh vt : Value} {E : List En} {H : List It} {B : List (List UInt8)} : Pc.Ent ((BkN b vl vm vh vt B).star (BkS vl vm vh vt E H)) (Pc.ex fun I : List It => Pc.when (I.map It.bs = B) (BkA b E H I)) := by
  rintro w F ⟨F1, F2, ⟨I, hI, vf, vw, h1⟩, h2, h3, rfl⟩
  have e : Pc.Ent (((Pc.blk b (.cells #[vl, vm, vh, vt, vf, vw] 45)).star ((Pc.row 43 1 vf I.length (I.map It.v)).star ((Pc.row 43 1 vw I.length (I.map It.u)).star (items I)))).star (BkS vl vm vh vt E H)) ((CoE b vl vm vh vt vf vw E H I).star ((MkE E).star ((items H).star (items I)))) := by
    unfold CoE Co BkS
    simp only [enV_len, enM_len, List.length_map]
    refine Pc.Ent.trans (Pc.Ent.mono ?_ (Pc.Ent.refl _)) ((ent_join _ _ _ _ _).trans ((ent_fresh' _ _ _ _ _ _).mono (Pc.Ent.refl _)))
    exact ((Pc.Ent.refl _).mono (Pc.Ent.assoc' _ _ _)).trans (Pc.Ent.assoc' _ _ _)
  obtain ⟨F3, h4, h5⟩ := e w _ ⟨F1, F2, h1, h2, h3, rfl⟩
  exact ⟨F3, ⟨I, hI, (vl, vm, vh, vt, vf, vw), h4⟩, h5⟩
end Go.Proofs.YtedddekkbgaolaaDoor
