/- The Book: lists that came out; the walk of owns. -/
import Derived.Test.YtedddekkbgaolaaDoorPr
namespace Go.Proofs.YtedddekkbgaolaaDoor
open Go.RowKit Me

theorem info43 : (Tryd.prog.info? 43).map (fun i => (i.zero, i.size, i.bytes)) = some (some (.slice none 0 0), 1, 24) := by kernel_rfl
namespace Me
theorem row_turn {e : TypeId} {size : Nat} {v v' : Value} {n n' : Nat} {xs xs' : List Value} {w w' : World} {o : Obj} (hown : w'.ownsRow 0 e size v' n' xs') (hg : (w.alloc o).grownBy w' v.ownBlock) (hat : v'.ownBlock = v.ownBlock ∨ v'.ownBlock = some (w.heap.size + 1)) :
    ∀ F1, (Pc.row e size v n xs).A w F1 → Post (Pc.row e size v' n' xs') w F1 w' := by
  rintro F1 ⟨_, rfl⟩
  refine ⟨_, ⟨hown, rfl⟩, ((Mods.refl _ _).alloc _).grown hg (fun b hb => Or.inl (by rw [hb]; simp)), fun k hk => ?_⟩
  rcases hat with h | h
  · rw [h] at hk
    exact Or.inl hk
  · rw [h] at hk
    simp at hk
    omega
theorem blk_turn {b i : Nat} {cs : Array Value} {t : TypeId} {w : World} (u : Value) : ∀ F1, (Pc.blk b (.cells cs t)).A w F1 → Post (Pc.blk b (.cells (cs.setIfInBounds i u) t)) w F1 (w.setCell ⟨b, i, none⟩ u) := by
  rintro F1 ⟨h, rfl⟩
  exact ⟨[b], ⟨by rw [heap_setCell_same _ _ _ _ _ _ h], rfl⟩, (Mods.refl _ _).setCell (p := ⟨b, i, none⟩) (Or.inl (by simp)) u, fun _ hk => Or.inl hk⟩
/-- The third to the front. -/
theorem Pc.Ent.at3 (p q r s : Pc) : Pc.Ent (p.star (q.star (r.star s))) (r.star (p.star (q.star s))) := ((Pc.Ent.refl p).mono (Pc.Ent.swap q r s)).trans (Pc.Ent.swap p r _)
theorem Pc.Ent.at4 (p q r s t : Pc) : Pc.Ent (p.star (q.star (r.star (s.star t)))) (s.star (p.star (q.star (r.star t)))) := ((Pc.Ent.refl p).mono (Pc.Ent.at3 q r s t)).trans (Pc.Ent.swap p s _)
theorem Pc.Ent.at5 (p q r s t u : Pc) : Pc.Ent (p.star (q.star (r.star (s.star (t.star u))))) (t.star (p.star (q.star (r.star (s.star u))))) := ((Pc.Ent.refl p).mono (Pc.Ent.at4 q r s t u)).trans (Pc.Ent.swap p t _)
theorem Post.rowAt {p : Pc} {w0 w : World} {F : List Nat} {e : TypeId} {size : Nat} {v : Value} {n : Nat} {xs : List Value} (h : Post p w0 F w) (hp : Pc.Ent p (Pc.row e size v n xs)) : w.ownsRow 0 e size v n xs := by
  obtain ⟨F1, h1, _⟩ := h.ent hp
  exact h1.1
end Me

/-- A list that came out, and its copy. -/
structure It where
  v : Value
  u : Value
  bs : List UInt8
def rowOf (v : Value) (bs : List UInt8) : Pc := Pc.row 5 1 v bs.length (bs.map byteV)
def itemP (x : It) : Pc := (rowOf x.v x.bs).star (rowOf x.u x.bs)
def items : List It → Pc
  | [] => Pc.emp
  | x :: I => (itemP x).star (items I)
theorem items_snoc : ∀ (I : List It) (x : It), Pc.Ent ((itemP x).star (items I)) (items (I ++ [x]))
  | [], _ => Pc.Ent.refl _
  | _ :: I, x => (Pc.Ent.swap _ _ _).trans ((Pc.Ent.refl _).mono (items_snoc I x))
/-- The rows of the fresh ones. -/
def BkF (b : Nat) (vl vm vh vt : Value) (I : List It) : Pc :=
  Pc.ex fun vf => Pc.ex fun vw => (Pc.blk b (.cells #[vl, vm, vh, vt, vf, vw] 45)).star ((Pc.row 43 1 vf I.length (I.map It.v)).star ((Pc.row 43 1 vw I.length (I.map It.u)).star (items I)))
def BkN (b : Nat) (vl vm vh vt : Value) (B : List (List UInt8)) : Pc := Pc.ex fun I : List It => Pc.when (I.map It.bs = B) (BkF b vl vm vh vt I)
theorem cell6 {w : World} {a : Nat} {x0 x1 x2 x3 x4 x5 : Value} {T : TypeId} (h : w.heap[a]? = some (.cells #[x0, x1, x2, x3, x4, x5] T (0, 0))) :
    w.cell? ⟨a, 4, none⟩ = some x4 ∧ w.cell? ⟨a, 5, none⟩ = some x5 ∧ w.frozen? ⟨a, 4, none⟩ = false ∧ w.frozen? ⟨a, 5, none⟩ = false := by
  refine ⟨?_, ?_, frozen_of_row _ _ _ _ _ h, frozen_of_row _ _ _ _ _ h⟩ <;> (rw [cell_of_row _ _ _ _ _ _ h]; rfl)
set_option maxRecDepth 100000 in
set_option maxHeartbeats 1000000 in
theorem owns_f {w : World} {b : Nat} {vl vm vh vt v : Value} {I : List It} {bs : List UInt8} {F : List Nat} (h : ((rowOf v bs).star (BkF b vl vm vh vt I)).A w F) (hl : bs.length ≤ 100000000) (hI : I.length ≤ 100000000) :
    Calls Tryd.prog 84 #[.pointer (some ⟨b, 0, none⟩), v] w fun e w' => e = .returned (.tuple #[]) ∧ Post (Pc.ex fun u => BkF b vl vm vh vt (I ++ [⟨v, u, bs⟩])) w F w' := by
  have hex : ∃ vf vw, ((rowOf v bs).star ((Pc.blk b (.cells #[vl, vm, vh, vt, vf, vw] 45)).star ((Pc.row 43 1 vf I.length (I.map It.v)).star ((Pc.row 43 1 vw I.length (I.map It.u)).star (items I))))).A w F := by
    obtain ⟨F1, F2, h1, ⟨vf, vw, h2⟩, h3, h4⟩ := h
    exact ⟨vf, vw, F1, F2, h1, h2, h3, h4⟩
  clear h
  obtain ⟨vf, vw, h⟩ := hex
  have hp := Post.start h
  have H0 := Lib.hid hp
  have hb := hp.blkAt ((Pc.Ent.right _ _).trans (Pc.Ent.left _ _))
  have hv := hp.rowAt (Pc.Ent.left _ _)
  have hf := hp.rowAt ((Pc.Ent.right _ _).trans ((Pc.Ent.right _ _).trans (Pc.Ent.left _ _)))
  have hu := hp.rowAt ((Pc.Ent.right _ _).trans ((Pc.Ent.right _ _).trans ((Pc.Ent.right _ _).trans (Pc.Ent.left _ _))))
  obtain ⟨Av, cv, rfl⟩ := own_ctor hv
  obtain ⟨Af, cf, rfl⟩ := own_ctor hf
  obtain ⟨Au, cu, rfl⟩ := own_ctor hu
  have HV := Lib.hid hv
  clear h hp hb hv hf hu
  obtain ⟨i0, hi, hz0, hz1, hz2⟩ := info_parts info5
  obtain ⟨i1, hj, hy0, hy1, hy2⟩ := info_parts info43
  go_enter Tryd.func84, Tryd.ntmps84
  go_wp2_with (at_builtin; go_must (refine wpList_app _ rfl _ _ 43 43 rfl w.heap.size 5 i0 (.int .u8 0) 1 1 Tryd.underlying43 hi hz0 hz1 hz2 rfl (.slice none 0 0) 0 [] rfl (World.ownsRow_nil _ _ _ _) _ bs.length (bs.map byteV) rfl ?c1 ?c2 ?c3 ?c4 ?_))
  case c1 => exact src_own Tryd.underlying43 HV.out (bytes_one _)
  case c2 => unfold maxLen; omega
  case c3 => omega
  case c4 => exact Nat.le_refl _
  intro u w1 hown hgrow hat
  have hm1 := (Mods.refl [] w).grown hgrow (by simp [Value.ownBlock])
  have hp1 := H0.out.add (q := rowOf u bs) hm1 ⟨ownsRow_base (by simpa using hown) (Nat.zero_le _), rfl⟩ (fun k hk => (hown.lt k (by simpa using hk)).1)
  have H1 := Lib.hid hp1
  obtain ⟨A1, c1, rfl⟩ := own_ctor hown
  obtain ⟨d4, d5, g4, g5⟩ := cell6 (hp1.blkAt ((Pc.Ent.right _ _).trans ((Pc.Ent.right _ _).trans (Pc.Ent.left _ _))))
  have hf := hp1.rowAt ((Pc.Ent.right _ _).trans ((Pc.Ent.right _ _).trans ((Pc.Ent.right _ _).trans (Pc.Ent.left _ _))))
  have HF := Lib.hid hf
  clear hown hgrow hat hm1 hp1 hf
  go_wp2_with (at_builtin; go_must (refine wpList_app _ rfl _ _ 42 42 rfl 0 43 i1 (.slice none 0 0) 1 24 Tryd.underlying42 hj hy0 hy1 hy2 rfl _ _ _ rfl (HF.out.alloc _) _ 1 [.slice Av bs.length cv] rfl ?d1 ?d2 ?d3 ?d4 ?_))
  case d1 => exact src_one Tryd.underlying42 _ _ _ rfl
  case d2 => unfold maxLen; omega
  case d3 => omega
  case d4 => exact Nat.zero_le _
  intro v2 w2 hown hgrow hat
  have hp2 := (((H1.out.ent (Pc.Ent.at4 _ _ _ _ _)).step (row_turn hown hgrow hat)).ent (Pc.Ent.at4 _ _ _ _ _))
  obtain ⟨d4, d5, g4, g5⟩ := cell6 (hp2.blkAt (Pc.Ent.left _ _))
  obtain ⟨A2, c2, rfl⟩ := own_ctor hown
  have hp3 := hp2.step (blk_turn (i := 4) (.slice A2 (I.length + 1) c2))
  have H3 : Hid (Post ((Pc.blk b (.cells #[vl, vm, vh, vt, .slice A2 (I.length + 1) c2, .slice Au I.length cu] 45)).star _) w F (w2.setCell ⟨b, 4, none⟩ (.slice A2 (I.length + 1) c2))) := Lib.hid hp3
  have hu := hp3.rowAt ((Pc.Ent.at5 _ _ _ _ _ _).trans (Pc.Ent.left _ _))
  have HU := Lib.hid hu
  obtain ⟨-, k5, -, l5⟩ := cell6 (H3.out.blkAt (Pc.Ent.left _ _))
  clear hown hgrow hat hp2 hp3 hu d5 g5
  go_wp2_with (at_builtin; go_must (refine wpList_app _ rfl _ _ 42 42 rfl 0 43 i1 (.slice none 0 0) 1 24 Tryd.underlying42 hj hy0 hy1 hy2 rfl _ _ _ rfl (HU.out.alloc _) _ 1 [.slice A1 bs.length c1] rfl ?e1 ?e2 ?e3 ?e4 ?_))
  case e1 => exact src_at Tryd.underlying42 (w2.setCell ⟨b, 4, none⟩ (.slice A2 (I.length + 1) c2)) [.slice A1 bs.length c1] 43 _ 1 (size_set _ _ _) rfl (by intro u hu; simp at hu; subst hu; rfl)
  case e2 => unfold maxLen; omega
  case e3 => omega
  case e4 => exact Nat.zero_le _
  intro v4 w4 hown hgrow hat
  have hp4 := (((H3.out.ent (Pc.Ent.at5 _ _ _ _ _ _)).step (row_turn hown hgrow (by simpa using hat))).ent (Pc.Ent.swap _ _ _))
  obtain ⟨k4, k5', m4, m5⟩ := cell6 (hp4.blkAt (Pc.Ent.left _ _))
  obtain ⟨A4, c4, rfl⟩ := own_ctor hown
  have hp5 := hp4.step (blk_turn (i := 5) (.slice A4 (I.length + 1) c4))
  have hp6 : Post ((Pc.blk b (.cells #[vl, vm, vh, vt, .slice A2 (I.length + 1) c2, .slice A4 (I.length + 1) c4] 45)).star ((Pc.row 43 1 (.slice A2 (I.length + 1) c2) (I.length + 1) (I.map It.v ++ [.slice Av bs.length cv])).star
      ((Pc.row 43 1 (.slice A4 (I.length + 1) c4) (I.length + 1) (I.map It.u ++ [.slice A1 bs.length c1])).star (items (I ++ [⟨.slice Av bs.length cv, .slice A1 bs.length c1, bs⟩]))))) w F _ :=
    hp5.ent ((Pc.Ent.refl _).mono ((Pc.Ent.swap _ _ _).trans ((Pc.Ent.refl _).mono ((Pc.Ent.refl _).mono (((Pc.Ent.swap _ _ _).trans (Pc.Ent.assoc' _ _ _)).trans (items_snoc I ⟨.slice Av bs.length cv, .slice A1 bs.length c1, bs⟩))))))
  have hp7 : Post (Pc.ex fun u => BkF b vl vm vh vt (I ++ [⟨.slice Av bs.length cv, u, bs⟩])) w F _ := hp6.ent (Pc.Ent.to (.slice A1 bs.length c1) (Pc.Ent.to (.slice A2 (I.length + 1) c2) (Pc.Ent.to (.slice A4 (I.length + 1) c4) (by simpa using Pc.Ent.refl _))))
  have H7 := Lib.hid hp7
  clear hown hgrow hat hp4 hp5 hp6 hp7 d4 d5 g4 g5 k4 l5
  go_wp2_with fail
  go_end0
  exact ⟨rfl, H7.out⟩
/-- owns, whatever the copies' places are. -/
theorem owns_any {w : World} {b : Nat} {vl vm vh vt v : Value} {B : List (List UInt8)} {bs : List UInt8} {F : List Nat} (h : ((rowOf v bs).star (BkN b vl vm vh vt B)).A w F) (hl : bs.length ≤ 100000000) (hB : B.length ≤ 100000000) :
    Calls Tryd.prog 84 #[.pointer (some ⟨b, 0, none⟩), v] w fun e w' => e = .returned (.tuple #[]) ∧ Post (BkN b vl vm vh vt (B ++ [bs])) w F w' := by
  obtain ⟨F1, F2, h1, ⟨I, hI, h2⟩, h3, h4⟩ := h
  subst hI
  refine (owns_f ⟨F1, F2, h1, h2, h3, h4⟩ hl (by simpa using hB)).mono fun e w' hh => ⟨hh.1, hh.2.ent (Pc.Ent.ex fun u => Pc.Ent.to (I ++ [⟨v, u, bs⟩]) ?_)⟩
  exact fun w F hF => ⟨F, ⟨by simp, hF⟩, fun _ hk => hk⟩
end Go.Proofs.YtedddekkbgaolaaDoor
