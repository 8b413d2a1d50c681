/- A range over a function in pieces of memory (over any program, at the wide fence); slices.Clone, Each, its iterator, Records; the walk of StatOneForm (that part is printed by wip/bin/genof.py). -/
import Derived.Test.YtnpokdbpmnkbjaaGreatDoorBo
import Derived.RangeFuncMany
import Derived.Test.YtnpokdbpmnkbjaaGreatDoorWa
import Derived.Lib.LazyBuf
import Derived.Test.YtnpokdbpmnkbjaaGreatDoorTk
import Derived.Test.YtnpokdbpmnkbjaaGreatDoorRk
import Derived.RangeFuncBound
import Derived.RangeFuncCalls
import Derived.RangeFuncLeaves
import Derived.Shelf.Abstract
import Derived.Shelf.RegionOpen
import Derived.WalkKit
import Derived.OwnWalkIn
import Derived.TacticsInMore
import Derived.LoopNIn
import Derived.LoopIn
import Derived.Test.YtnpokdbpmnkbjaaGreatDoorAw
import Derived.Lib.BufferRead
import Derived.Deep.MidRow
namespace Go.Proofs.YtnpokdbpmnkbjaaGreatDoor.Me
open Go Go.RowKit

theorem Mods.putObj (l : Nat) (w : World) (o : Obj) : Mods [l] w (w.putObj l o) :=
  ⟨rfl, rfl, rfl, by simp, fun k _ hk => World.putObj_heap_other (by simpa using hk)⟩
theorem put_turn {l : Nat} {o o' : Obj} {w : World} : ∀ F1, (Pc.blk l o).A w F1 → Post (Pc.blk l o') w F1 (w.putObj l o') := by
  rintro F1 ⟨h, rfl⟩
  exact ⟨[l], ⟨World.putObj_heap_same (Array.getElem?_eq_some_iff.1 h).1, rfl⟩, Mods.putObj l w o', fun _ hk => Or.inl hk⟩
/-- The iterator's contract: it hands out the elements of L, in order, round for round; X: what it reads. -/
def SeqPc {α : Type} (P : Program) (g : Nat) (lb : Array Value) (encs : α → Array Value) (X : Pc) (L : List α) (w0 : World) (F0 : List Nat) : Prop :=
  ∀ (n l : Nat) (K Kx : Nat → Pc) (W : World),
    (∀ (k : Nat) (x : α) (R : Pc) (W1 : World), L[k]? = some x → Post ((K k).star R) w0 F0 W1 → YieldAt Fence.wide (n - 1) P l (encs x) W1 fun e W' =>
      (e = .returned (.bool true) ∧ Post ((K (k + 1)).star R) w0 F0 W') ∨ (e = .returned (.bool false) ∧ Post ((Kx (k + 1)).star R) w0 F0 W')) →
    Post ((K 0).star X) w0 F0 W →
    CallsIn Fence.wide n P g (#[.func (.yield l) #[] #[]] ++ lb) W fun e W' => (∃ v, e = .returned v) ∧ (Post ((K L.length).star X) w0 F0 W' ∨ ∃ k, k ≤ L.length ∧ Post ((Kx k).star X) w0 F0 W')
/-- How the body of a round may be left. -/
def pcPost (K : Nat → Pc) (Kx : Code → Nat → Pc) (R : Pc) (k : Nat) (w0 : World) (F0 : List Nat) : Exit → Act → World → Prop
  | .normal, _, W' => Post ((K k).star R) w0 F0 W'
  | .ret, _, W' => Post ((Kx .ret k).star R) w0 F0 W'
  | .exit id, _, W' => Post ((Kx (.exit id) k).star R) w0 F0 W'
  | .goto t, _, W' => Post ((Kx (.goto t) k).star R) w0 F0 W'
  | .panic _, _, _ => False
  | .outgrown, _, _ => False
theorem ent_law (k b d r : Pc) : Pc.Ent ((k.star (b.star d)).star r) (b.star (k.star (d.star r))) :=
  (Pc.Ent.assoc _ _ _).trans (((Pc.Ent.refl k).mono (Pc.Ent.assoc b d r)).trans (Pc.Ent.swap k b _))
theorem ent_law' (k b d r : Pc) : Pc.Ent (b.star (k.star (d.star r))) ((k.star (b.star d)).star r) :=
  (Pc.Ent.swap b k _).trans (((Pc.Ent.refl k).mono (Pc.Ent.assoc' b d r)).trans (Pc.Ent.assoc' _ _ _))
theorem Post.blkOf {p : Pc} {w0 w : World} {F : List Nat} {b : Nat} {o : Obj} (h : Post p w0 F w) (e : Pc.Ent p (Pc.blk b o)) : w.heap[b]? = some o := by
  obtain ⟨F1, h1, _⟩ := h.ent e
  exact h1.1
theorem wpIn_rangeFunc_pc {P : Program} {n : Nat} {α : Type} {g : Operand} {ps : Array Tmp} {assign body : Code} {Q : Exit → Act → World → Prop} {a : Act} {w : World}
    {gf : Nat} {lb : Array Value} (hg : a.eval g = .func (.func gf) #[] lb) (eg : ∀ args w, (callFunc gf args).run P w = .ok (.enter gf args) w)
    {encs : α → Array Value} {X : Pc} {L : List α} {w0 : World} {F0 : List Nat} (hseq : SeqPc P gf lb encs X L w0 F0) (hps : ∀ x, (encs x).size = ps.size)
    (K : Nat → Pc) (Kx : Code → Nat → Pc) (h0 : Post ((K 0).star X) w0 F0 w)
    (hround : ∀ (l : Nat) (k : Nat) (x : α) (R : Pc) (W : World), L[k]? = some x → Post ((K k).star R) w0 F0 W →
      assign.wpIn (Fence.wide.inRound l) (n - 1 - 1) P (Exit.then (fun a₁ W₁ => ∃ M : Pc, Post (M.star R) w0 F0 W₁ ∧ ∀ (R₂ : Pc) (W₂ : World), Post (M.star R₂) w0 F0 W₂ → body.wpIn (Fence.wide.inRound l) (n - 1 - 1) P (pcPost K Kx R₂ (k + 1) w0 F0) a₁ W₂) (fun _ _ _ => False))
        { tmps := (ps.zip (encs x)).foldl (fun t (p, v) => t.setIfInBounds p v) a.tmps, defers := [] } W)
    (hdone : ∀ (D : Nat) (W : World), Post ((K L.length).star (X.star (Pc.blk D (.deferred (some []))))) w0 F0 W → Q .normal { a with defers := { target := .collected D, args := #[] } :: a.defers } W)
    (hstop : ∀ (D : Nat) (c : Code) (k : Nat) (W : World), k ≤ L.length → Post ((Kx c k).star (X.star (Pc.blk D (.deferred (some []))))) w0 F0 W → c.wpIn Fence.wide n P Q { a with defers := { target := .collected D, args := #[] } :: a.defers } W) :
    (Code.rangeFunc g ps assign body).wpIn Fence.wide n P Q a w := by
  refine wpIn_rangeFunc ?_
  intro fn hfn
  obtain ⟨rec, hrec⟩ : ∃ rec : LoopState → Option Code → Loop, rec = fun st pe => { state := st, pending := pe, fn, tmps := a.tmps, params := ps, assign, body, defers := w.heap.size } := ⟨_, rfl⟩
  obtain ⟨W1, hW1⟩ : ∃ W1, (w.alloc (.deferred (some []))).alloc (.loop (rec .ready none)) = W1 := ⟨_, rfl⟩
  have hA := (h0.alloc (.deferred (some []))).alloc (.loop (rec .ready none))
  rw [hW1, World.size_alloc] at hA
  have hB : Post (((K 0).star ((Pc.blk (w.heap.size + 1) (.loop (rec .ready none))).star (Pc.blk w.heap.size (.deferred (some []))))).star X) w0 F0 W1 :=
    hA.ent (((Pc.Ent.refl _).mono (Pc.Ent.swap _ _ _)).trans (ent_law' _ _ _ _))
  refine ⟨w.heap.size + 1, [{ target := .collected w.heap.size, args := #[] }], W1, { target := .fn (.func gf) lb, args := #[.func (.yield (w.heap.size + 1)) #[] #[]] }, W1, gf,
    #[.func (.yield (w.heap.size + 1)) #[] #[]] ++ lb, W1, ?_, ?_, ?_, ?_, fun h => (by cases h), ?_⟩
  · rw [← hW1, hrec]; exact run_enterLoop_outer _ _ _ _ _
  · simp only [resolve, hg]
    simp [go_sem]
  · intro f' _; trivial
  · simp [invoke, go_sem, eg]
  · refine (hseq (n - 1) (w.heap.size + 1)
      (fun k => (K k).star ((Pc.blk (w.heap.size + 1) (.loop (rec .ready none))).star (Pc.blk w.heap.size (.deferred (some [])))))
      (fun k => Pc.ex fun c => (Kx c k).star ((Pc.blk (w.heap.size + 1) (.loop (rec .done (some c)))).star (Pc.blk w.heap.size (.deferred (some [])))))
      W1 ?_ hB).mono ?_
    · intro k x R W hx hp
      have hp1 := hp.ent (ent_law _ _ _ _)
      have hl := hp1.blkOf (Pc.Ent.left _ _)
      have hy := run_yield (P := P) (args := encs x) hl (by rw [hrec]; exact hps x)
      rw [hrec] at hy
      have hfull := hp1.ent (Pc.Ent.swap _ _ _)
      refine ⟨fn, _, assign, body, hy, roundIn_of_wpIn hfn (wpIn_mono (hround (w.heap.size + 1) k x _ W hx hfull) ?_)⟩
      intro e a1 W2 he
      cases e with
      | normal =>
        obtain ⟨M, h2, hb⟩ := he
        have h2' := h2.ent (Pc.Ent.swap _ _ _)
        have hl2 := h2'.blkOf (Pc.Ent.left _ _)
        refine ⟨_, run_beginRound hl2 (by rw [hrec]), ?_⟩
        have h3 := (h2'.step (put_turn (o' := .loop { rec .ready none with state := .busy }))).ent (Pc.Ent.swap _ _ _)
        refine wpIn_mono (hb _ _ h3) ?_
        have fin : ∀ (jump : Option Code) (KK : Pc) (W3 : World), Post (KK.star ((Pc.blk (w.heap.size + 1) (.loop { rec .ready none with state := .busy })).star ((Pc.blk w.heap.size (.deferred (some []))).star R))) w0 F0 W3 →
            (Instr.endRound (w.heap.size + 1) jump).run P W3 = .ok (.bool jump.isNone) (W3.putObj (w.heap.size + 1) (.loop (rec (if jump.isNone then .ready else .done) jump))) ∧
            Post ((KK.star ((Pc.blk (w.heap.size + 1) (.loop (rec (if jump.isNone then .ready else .done) jump))).star (Pc.blk w.heap.size (.deferred (some []))))).star R) w0 F0 (W3.putObj (w.heap.size + 1) (.loop (rec (if jump.isNone then .ready else .done) jump))) := fun jump KK W3 h4 => by
          have h4' := h4.ent (Pc.Ent.swap _ _ _)
          have hl3 := h4'.blkOf (Pc.Ent.left _ _)
          have := run_endRound (P := P) jump hl3
          rw [hrec] at this
          refine ⟨by rw [hrec]; exact this, ?_⟩
          exact ((h4'.step (put_turn (o' := .loop (rec (if jump.isNone then .ready else .done) jump)))).ent (ent_law' _ _ _ _))
        rintro e a3 W3 hp
        cases e with
        | normal =>
          obtain ⟨hr, h5⟩ := fin none _ W3 hp
          exact ⟨_, _, hr, .inl ⟨rfl, h5⟩⟩
        | ret =>
          obtain ⟨hr, h5⟩ := fin (some .ret) _ W3 hp
          exact ⟨_, _, hr, .inr ⟨rfl, h5.ent ((Pc.Ent.to (p := fun c => (Kx c (k + 1)).star ((Pc.blk (w.heap.size + 1) (.loop (rec .done (some c)))).star (Pc.blk w.heap.size (.deferred (some []))))) .ret (Pc.Ent.refl _)).mono (Pc.Ent.refl _))⟩⟩
        | exit id =>
          obtain ⟨hr, h5⟩ := fin (some (.exit id)) _ W3 hp
          exact ⟨_, _, hr, .inr ⟨rfl, h5.ent ((Pc.Ent.to (p := fun c => (Kx c (k + 1)).star ((Pc.blk (w.heap.size + 1) (.loop (rec .done (some c)))).star (Pc.blk w.heap.size (.deferred (some []))))) (.exit id) (Pc.Ent.refl _)).mono (Pc.Ent.refl _))⟩⟩
        | goto t =>
          obtain ⟨hr, h5⟩ := fin (some (.goto t)) _ W3 hp
          exact ⟨_, _, hr, .inr ⟨rfl, h5.ent ((Pc.Ent.to (p := fun c => (Kx c (k + 1)).star ((Pc.blk (w.heap.size + 1) (.loop (rec .done (some c)))).star (Pc.blk w.heap.size (.deferred (some []))))) (.goto t) (Pc.Ent.refl _)).mono (Pc.Ent.refl _))⟩⟩
        | panic ch => exact hp.elim
        | outgrown => exact hp.elim
      | ret => exact he.elim
      | exit id => exact he.elim
      | goto t => exact he.elim
      | panic ch => exact he.elim
      | outgrown => exact he.elim
    · rintro e W2 ⟨⟨v, rfl⟩, hh⟩
      rcases hh with hh | ⟨k, hk, hh⟩
      · have h1 := hh.ent (ent_law _ _ _ _)
        have hl := h1.blkOf (Pc.Ent.left _ _)
        refine ⟨none, _, by have := run_endLoop (P := P) hl (by rw [hrec]; simp); rw [hrec] at this; exact this, hdone _ _ ?_⟩
        exact (h1.step put_turn).ent ((Pc.Ent.right _ _).trans ((Pc.Ent.refl _).mono (Pc.Ent.comm _ _)))
      · obtain ⟨F9, ⟨F1, F2, ⟨c, hk1⟩, hX, n1, rfl⟩, m1, m2⟩ := hh
        have hh' : Post (((Kx c k).star ((Pc.blk (w.heap.size + 1) (.loop (rec .done (some c)))).star (Pc.blk w.heap.size (.deferred (some []))))).star X) w0 F0 W2 := ⟨_, ⟨F1, F2, hk1, hX, n1, rfl⟩, m1, m2⟩
        have h1 := hh'.ent (ent_law _ _ _ _)
        have hl := h1.blkOf (Pc.Ent.left _ _)
        refine ⟨some c, _, by have := run_endLoop (P := P) hl (by rw [hrec]; simp); rw [hrec] at this; exact this, hstop _ c k _ hk ?_⟩
        exact (h1.step put_turn).ent ((Pc.Ent.right _ _).trans ((Pc.Ent.refl _).mono (Pc.Ent.comm _ _)))
end Go.Proofs.YtnpokdbpmnkbjaaGreatDoor.Me
namespace Go.Proofs.YtnpokdbpmnkbjaaGreatDoor
open Go.RowKit Me

set_option maxRecDepth 100000 in
set_option maxHeartbeats 400000 in
theorem clone_any {w : World} {vx : Value} (l : List UInt8) (hx : Rd w vx (l.map byteV)) (hl : l.length ≤ 70000000000000) :
    Calls Tryz.prog 78 #[vx] w fun e w' => ∃ v, e = .returned v ∧ w'.ownsRow w.heap.size 5 1 v l.length (l.map byteV) ∧ Mods [] w w' := by
  have HX := Lib.hid hx
  obtain ⟨A, c, rfl, -⟩ := rd_slice hx
  clear hx
  obtain ⟨i0, hi, hz0, hz1, hz2⟩ := info_parts info5
  rcases A with _ | ad
  · have hl0 : l = [] := by
      obtain ⟨A', c', e, -, -, h3⟩ := HX.out
      have e' := (Value.slice.inj e).1
      subst e'
      rcases l with _ | ⟨x, l⟩
      · rfl
      · obtain ⟨g, off, e2, -⟩ := h3 0 (byteV x) rfl
        cases e2
    subst hl0
    have heq : (binOp .eql 37 (.slice none 0 c) (.slice none 0 0)).run Tryz.prog w = .ok (.bool true) w := Lib.run_eql_slice_nil (P := Tryz.prog) w 37 5 none 0 c 0 0 Tryz.underlying37
    clear HX
    go_enter Tryz.func78, Tryz.ntmps78
    go_wp2_with fail
    go_ret
    exact ⟨_, rfl, World.ownsRow_nil _ _ _ _, Mods.refl _ _⟩
  · have heq : (binOp .eql 37 (.slice (some ad) l.length c) (.slice none 0 0)).run Tryz.prog w = .ok (.bool false) w := Lib.run_eql_slice_nil (P := Tryz.prog) w 37 5 (some ad) l.length c 0 0 Tryz.underlying37
    have HR0 : Hid ((w.alloc (.cells #[] 5)).ownsRow w.heap.size 5 1 (.slice (some ⟨w.heap.size, 0, none⟩) 0 0) 0 []) := Lib.hid ⟨by simp, .inr ⟨w.heap.size, 0, #[], rfl, Nat.le_refl _, heap_alloc_new w _, Nat.le_refl _, by unfold maxLen; omega, rfl, rfl⟩⟩
    have HX1 := Lib.hid (HX.out.mods ((Mods.refl [] w).alloc (.cells #[] 5)) (by simp))
    have HM1 := Lib.hid ((Mods.refl [] w).alloc (.cells #[] 5))
    go_enter Tryz.func78, Tryz.ntmps78
    go_wp2_with (at_builtin; go_must (refine wpList_app _ rfl _ _ 37 37 rfl w.heap.size 5 i0 (.int .u8 0) 1 1 Tryz.underlying37 hi hz0 hz1 hz2 rfl _ 0 [] rfl HR0.out _ l.length (l.map byteV) rfl ?c1 ?c2 ?c3 ?c4 ?_))
    case c1 =>
      have h := HX1.out.src Tryz.underlying37 (bytes_one _)
      rw [List.length_map] at h
      exact h
    case c2 => unfold maxLen; omega
    case c3 => omega
    case c4 => simp
    intro v' w1 hown hgrow hat2
    have HM := Lib.hid (HM1.out.grown hgrow (fun b hb => Or.inr (by simp [Value.ownBlock] at hb; omega)))
    obtain ⟨A', c', rfl⟩ := own_ctor hown
    have HO := Lib.hid hown
    clear hown hgrow hat2
    go_wp2_with fail
    go_ret
    exact ⟨_, rfl, by simpa using HO.out, HM.out⟩
/-- What Each captures: a copy of the bytes, in a box. -/
def EachX (bx : Nat) (v : Value) (l : List UInt8) : Pc := (Pc.blk bx (.cells #[v] 37)).star (rowOf v l)
set_option maxRecDepth 100000 in
set_option maxHeartbeats 400000 in
theorem each_any {w : World} {vx : Value} (l : List UInt8) (hx : Rd w vx (l.map byteV)) (hl : l.length ≤ 70000000000000) :
    Calls Tryz.prog 34 #[vx] w fun e w' => ∃ (bx : Nat) (v : Value), e = .returned (.func (.func 79) #[] #[.pointer (some ⟨bx, 0, none⟩)]) ∧ Post (EachX bx v l) w [] w' := by
  have HC := Lib.hid (clone_any l hx hl)
  clear hx
  go_enter Tryz.func34, Tryz.ntmps34
  go_wp2_with fail
  refine HC.out.mono ?_; rintro e w1 ⟨v, rfl, ho, hm⟩
  have hp : Post (rowOf v l) w [] w1 := ⟨v.ownBlock.toList, ⟨ownsRow_base ho (Nat.zero_le _), rfl⟩, hm, fun k hk => Or.inr (ho.lt k (by simpa using hk)).1⟩
  have HP := Lib.hid (hp.alloc (.cells #[v] 37))
  obtain ⟨A, c, rfl⟩ := own_ctor ho
  clear hp ho hm
  go_wp2_with fail
  go_ret
  exact ⟨_, _, rfl, HP.out⟩
end Go.Proofs.YtnpokdbpmnkbjaaGreatDoor
namespace Go.Proofs.YtnpokdbpmnkbjaaGreatDoor
open Go.RowKit Me

attribute [local go_sem] Oper.semAt_some
def recsF : Nat → RSt → List (Nat × StatP)
  | 0, _ => []
  | n + 1, S => if S.left = 0 then [] else if S.stat.2.err ≠ 0 then [] else (S.base + S.place, S.stat.1) :: recsF n S.stat.2
theorem recsF_enough : ∀ (n m : Nat) (S : RSt), S.bytes.length - S.place < n → S.bytes.length - S.place < m → recsF n S = recsF m S
  | 0, _, _, h, _ => by omega
  | _ + 1, 0, _, _, h => by omega
  | n + 1, m + 1, S, h1, h2 => by
    unfold recsF
    by_cases h0 : S.left = 0
    · rw [if_pos h0, if_pos h0]
    · rw [if_neg h0, if_neg h0]
      by_cases he : S.stat.2.err ≠ 0
      · rw [if_pos he, if_pos he]
      · rw [if_neg he, if_neg he]
        obtain ⟨-, -, -, hs⟩ := RSt.stat_of (S := S) (by simpa using he)
        have hz : 49 ≤ S.stat.1.size := by unfold StatP.size; omega
        have hp : S.place < S.bytes.length := by
          unfold RSt.left at h0
          split at h0 <;> omega
        congr 1
        refine recsF_enough n m _ ?_ ?_ <;> (rw [hs]; show S.bytes.length - (S.place + S.stat.1.size) < _; omega)
/-- The records that stand one behind the other from here on, each with its place. -/
def recs (S : RSt) : List (Nat × StatP) := recsF (S.bytes.length + 1) S
theorem recs_stop {S : RSt} (h : S.left = 0) : recs S = [] := by unfold recs recsF; rw [if_pos h]
theorem recs_err {S : RSt} (h : S.stat.2.err ≠ 0) : recs S = [] := by
  unfold recs recsF
  by_cases h0 : S.left = 0
  · rw [if_pos h0]
  · rw [if_neg h0, if_pos h]
theorem stat_step {S : RSt} (he : S.stat.2.err = 0) : S.stat.2.bytes = S.bytes ∧ S.stat.2.place = S.place + S.stat.1.size ∧ 49 ≤ S.stat.1.size ∧ S.stat.2.base = S.base := by
  obtain ⟨-, -, -, hs⟩ := RSt.stat_of (S := S) he
  have hz : 49 ≤ S.stat.1.size := by unfold StatP.size; omega
  refine ⟨by rw [hs]; rfl, ?_, hz, by rw [hs]; rfl⟩
  have h := congrArg RSt.place hs
  exact h
theorem left_pos {S : RSt} (h0 : S.left ≠ 0) : S.place < S.bytes.length := by
  unfold RSt.left at h0
  split at h0 <;> omega
theorem recs_next {S : RSt} (h0 : S.left ≠ 0) (he : S.stat.2.err = 0) : recs S = (S.base + S.place, S.stat.1) :: recs S.stat.2 := by
  obtain ⟨h1', h2, h3, -⟩ := stat_step he
  have h1 := congrArg List.length h1'
  clear h1'
  have hp := left_pos h0
  have e : recs S = (S.base + S.place, S.stat.1) :: recsF S.bytes.length S.stat.2 := by
    unfold recs
    rw [recsF, if_neg h0, if_neg (by simpa using he)]
  rw [e]
  refine congrArg _ ?_
  unfold recs
  generalize S.stat.1.size = z at *
  generalize S.stat.2 = T at *
  exact recsF_enough _ _ _ (by omega) (by omega)
def plOf (a : Nat) (wr : World) : Nat := (intOf ((wr.cell? ⟨a, 1, none⟩).getD undef)).toNat
theorem plOf_eq {T : TypeId} {w : World} {a : Nat} {S : RSt} {vb : Value} (h : IsR T w a S vb) : plOf a w = S.place := by
  unfold plOf
  rw [(cell5 h.cells).2.1]
  simp [intOf]
def RelEach (l : List UInt8) (a : Nat) (va : Value) (K : Nat → Pc) (X : Pc) (w0 : World) (wr : World) : Prop :=
  ∃ (k : Nat) (S : RSt), S.bytes.length = l.length ∧ k ≤ (recs (RSt.new l)).length ∧ recs S = (recs (RSt.new l)).drop k ∧ Post ((RsP 140 [⟨a, S, va⟩]).star ((K k).star X)) w0 [] wr
theorem setRow_new (w : World) (cur cs : Array Value) (t : TypeId) : (w.alloc (.cells cur t)).setRow w.heap.size cs = w.alloc (.cells cs t) := by
  unfold World.setRow World.alloc
  simp only [World.mk.injEq, and_true]
  refine Array.ext_getElem? fun i => ?_
  rw [Array.getElem?_modify]
  by_cases h : w.heap.size = i
  · subst h
    simp
  · rw [if_neg h]
    rw [Array.getElem?_push, Array.getElem?_push]
    rw [if_neg (by omega), if_neg (by omega)]
theorem run_store_new {P : Program} (w : World) (cur vs : Array Value) (t : TypeId) (hn : vs.size = cur.size) (h1 : ∀ v ∈ vs.toList, v.oneCell' = true) :
    (storeCells ⟨w.heap.size, 0, none⟩ vs.toList).run P (w.alloc (.cells cur t)) = .ok () (w.alloc (.cells vs t)) := by
  have h := run_storeCells_at P w.heap.size 0 t vs.toList 0 cur (w.alloc (.cells cur t)) (heap_alloc_new w _) (by simp; omega) h1
  rw [h]
  have e : (cur.toList.take (0 + 0) ++ vs.toList ++ cur.toList.drop (0 + 0 + vs.toList.length)).toArray = vs := by
    rw [List.drop_of_length_le (by simp; omega)]
    simp
  rw [e, setRow_new]
theorem statV_one (s : StatP) : ∀ v ∈ (statV s).toList, v.oneCell' = true := by
  intro v hv
  simp only [statV, List.mem_cons, List.not_mem_nil, or_false] at hv
  rcases hv with h | h | h | h | h | h | h | h | h | h | h | h | h <;> (subst h; rfl)
theorem stat_cells {w : World} {b : Nat} {s : StatP} (h : w.heap[b]? = some (.cells (statV s) 35 (0, 0))) :
    w.cell? ⟨b, 0, none⟩ = some (.int .u16 (s.typ : Int)) ∧ w.cell? ⟨b, 1, none⟩ = some (.int .u32 (s.dev : Int)) ∧ w.cell? ⟨b, 2, none⟩ = some (.int .u8 (s.qid.kind : Int)) ∧ w.cell? ⟨b, 3, none⟩ = some (.int .u32 (s.qid.vers : Int)) ∧
    w.cell? ⟨b, 4, none⟩ = some (.int .u64 (s.qid.path : Int)) ∧ w.cell? ⟨b, 5, none⟩ = some (.int .u32 (s.mode : Int)) ∧ w.cell? ⟨b, 6, none⟩ = some (.int .u32 (s.atime : Int)) ∧ w.cell? ⟨b, 7, none⟩ = some (.int .u32 (s.mtime : Int)) ∧
    w.cell? ⟨b, 8, none⟩ = some (.int .u64 (s.length : Int)) ∧ w.cell? ⟨b, 9, none⟩ = some (.string s.name) ∧ w.cell? ⟨b, 10, none⟩ = some (.string s.uid) ∧ w.cell? ⟨b, 11, none⟩ = some (.string s.gid) ∧ w.cell? ⟨b, 12, none⟩ = some (.string s.muid) := by
  refine ⟨?_, ?_, ?_, ?_, ?_, ?_, ?_, ?_, ?_, ?_, ?_, ?_, ?_⟩ <;> (rw [cell_of_row _ _ _ _ _ _ h]; rfl)
theorem ent_each (s p q x : Pc) : Pc.Ent (s.star (p.star (q.star x))) (q.star (p.star (x.star s))) :=
  (Pc.Ent.swap s p _).trans (((Pc.Ent.refl p).mono ((Pc.Ent.swap s q x).trans ((Pc.Ent.refl q).mono (Pc.Ent.comm s x)))).trans (Pc.Ent.swap p q _))
theorem drop_head {α : Type} {L M : List α} {k : Nat} {x : α} (h : L.drop k = x :: M) : L[k]? = some x ∧ L.drop (k + 1) = M ∧ k < L.length := by
  have hk : k < L.length := by
    rcases Nat.lt_or_ge k L.length with h1 | h1
    · exact h1
    · rw [List.drop_of_length_le h1] at h
      cases h
  rw [List.drop_eq_getElem_cons hk] at h
  injection h with h1 h2
  exact ⟨by rw [List.getElem?_eq_getElem hk, h1], h2, hk⟩
def encE (x : Nat × StatP) : Array Value := #[.int .i64 (x.1 : Int), .agg (statV x.2)]
set_option maxRecDepth 100000 in
set_option maxHeartbeats 1000000 in
theorem each_seq {w0 : World} {bx : Nat} {v : Value} (l : List UInt8) (hl : l.length ≤ 70000000000000) (hT : Lib.Utf8Tabs 0 1 w0) :
    SeqPc Tryz.prog 79 #[.pointer (some ⟨bx, 0, none⟩)] encE (EachX bx v l) (recs (RSt.new l)) w0 [] := by
  intro n lp K Kx W hY h0
  have HY := Lib.hid hY
  have H0 := Lib.hid h0
  have HT := Lib.hid hT
  have hbx := h0.blkOf ((Pc.Ent.right _ _).trans (Pc.Ent.left _ _))
  have hrow := h0.rowAt ((Pc.Ent.right _ _).trans (Pc.Ent.right _ _))
  have HRD := Lib.hid (Rd.of_own hrow)
  obtain ⟨A, c, rfl⟩ := own_ctor hrow
  have d0 : W.cell? ⟨bx, 0, none⟩ = some (.slice A l.length c) := by rw [cell_of_row _ _ _ _ _ _ hbx]; rfl
  clear hY h0 hT hbx hrow
  refine callsIn_of_wp Tryz.func79 rfl trivial ?_ rfl
  simp only [Tryz.ntmps79, List.size_toArray, List.length_cons, List.length_nil, Nat.reduceAdd, Nat.reduceSub, Array.replicate_succ, Array.replicate_zero, List.push_toArray, List.append_toArray, List.nil_append, List.cons_append]
  gi_wp2_with fail
  refine ⟨trivial, fun h => (by cases h), callsIn_wide.2 ?_⟩
  refine (newReader_any l HRD.out hl).mono ?_; rintro e w1 ⟨a, va, rfl, hi, hown, ha, hm⟩
  have hp1 : Post (RsP 140 [⟨a, RSt.new l, va⟩]) W [] w1 := RsP.new (L := []) ⟨[], RsP.nil _ _, Mods.refl _ _, by simp⟩ hm hi (fun q hq => hown.lt q hq) ha
  have hq1 : Post ((RsP 140 [⟨a, RSt.new l, va⟩]).star ((K 0).star (EachX bx (.slice A l.length c) l))) w0 [] w1 := by
    obtain ⟨G, g1, g2, g3⟩ := hp1
    exact H0.out.add g2 g1 (fun k hk => (g3 k hk).elim (fun h => by cases h) id)
  have H1 := Lib.hid hq1
  clear hi hown hm hp1 hq1 d0
  gi_wp2_with fail
  have ha2 : 2 ≤ a := by
    have h1 := tabs_two HT.out
    have h2 := H0.out.mods.size
    omega
  gi_loopw [4] (fun _ wr => RelEach l a va K (EachX bx (.slice A l.length c) l) w0 wr) (fun _ wr => l.length - plOf a wr)
  case atStart => exact ⟨0, RSt.new l, rfl, by omega, rfl, H1.out⟩
  case round =>
    obtain ⟨k, S, hb, hk, hrec, hp⟩ := hrel
    have hi := RsP.is (k := 0) hp rfl
    have HP := Lib.hid hp
    have HI := Lib.hid hi
    have HREC := Lib.hid hrec
    have HLN := Lib.hid (fun m => (left_any (hi.drewN m)))
    clear hp hrec
    by_cases h0 : S.left = 0
    · have hk2 : (recs (RSt.new l)).drop k = [] := by rw [← HREC.out, recs_stop h0]
      have hk3 : k = (recs (RSt.new l)).length := by
        have := List.drop_eq_nil_iff.1 hk2
        omega
      subst hk3
      rw [h0] at HLN
      gi_wp2_with fail
      refine ⟨trivial, fun h => (by cases h), callsIn_wide.2 ?_⟩
      refine (HLN.out 0).mono ?_; rintro e w2 ⟨rfl, q, rfl⟩
      gi_wp2_with fail
      go_end0
      exact ⟨⟨_, rfl⟩, Or.inl ((HP.out.still ((Mods.refl [] wr).drewN q)).ent (Pc.Ent.right _ _))⟩
    · have hl0 : 0 < S.left := by omega
      have hpos := left_pos h0
      have HH0 := Lib.hid h0
      have hT2 : ∀ m, Lib.Utf8Tabs 0 1 (wr.drewN m) := fun m => tabs_mods (HP.out.mods.drewN m) HT.out
      have hva : ∀ q, va.ownBlock = some q → q < wr.heap.size := by
        obtain ⟨F1, hF⟩ := HP.out.front
        exact fun q hq => hF.2.1 va (by simp) q hq
      have HAT := Lib.hid (fun m => at_any (hi.drewN m))
      have HTK := Lib.hid (fun m => RsP.call (k := 0) (HP.out.still ((Mods.refl [] wr).drewN m)) rfl (fun h => take_any h hva ha2 (hT2 m)))
      have hst := fun he => stat_step (S := S) he
      have HNX := Lib.hid (fun he => recs_next (S := S) h0 he)
      have HER := Lib.hid (fun he => recs_err (S := S) he)
      clear hva hT2 h0
      generalize hRR : S.stat = R9 at *
      obtain ⟨s, S'⟩ := R9
      simp only at HTK hst HNX HER
      gi_wp2_with fail
      refine ⟨trivial, fun h => (by cases h), callsIn_wide.2 ?_⟩
      refine (HLN.out 0).mono ?_; rintro e w2 ⟨rfl, q, rfl⟩
      gi_wp2_with fail
      refine ⟨trivial, fun h => (by cases h), callsIn_wide.2 ?_⟩
      refine (HAT.out _).mono ?_; rintro e w2 ⟨rfl, q2, rfl⟩
      rw [World.drewN_drewN]
      gi_wp2_with fail
      refine ⟨trivial, fun h => (by cases h), callsIn_wide.2 ?_⟩
      refine (HTK.out _).mono ?_; rintro e w3 ⟨rfl, hp3⟩
      have hp4 := hp3.alloc (.cells (statV s) 35)
      have HP4 := Lib.hid hp4
      have hi4 : IsR 140 (w3.alloc (.cells (statV s) 35)) a S' va := RsP.is (k := 0) (hp4.ent (Pc.Ent.swap _ _ _)) rfl
      have HI4 := Lib.hid hi4
      have HB4 := Lib.hid (heap_alloc_new w3 (.cells (statV s) 35))
      have hstore := run_store_new (P := Tryz.prog) w3 zeroV (statV s) 35 rfl (statV_one s)
      unfold zeroV at hstore
      clear hp3 hp4 hi4
      gi_wp2_with fail
      refine ⟨trivial, fun h => (by cases h), callsIn_wide.2 ?_⟩
      refine (err_any HI4.out).mono ?_; rintro e w5 ⟨rfl, q5, rfl⟩
      clear hstore
      generalize w3.alloc (.cells (statV s) 35) = w4 at *
      by_cases he : S'.err = 0
      · have HP5 := Lib.hid (HP4.out.still ((Mods.refl [] w4).drewN q5))
        generalize w3.heap.size = b at *
        have hb5 : (w4.drewN q5).heap[b]? = some (.cells (statV s) 35 (0, 0)) := HB4.out
        have he1 : (S'.err != 0) = false := by rw [he]; rfl
        generalize w4.drewN q5 = w5 at *
        have hbs := hst he
        obtain ⟨hx1, hx2, hx3⟩ := drop_head (HREC.out.symm.trans (HNX.out he))
        have HX2 := Lib.hid hx2
        obtain ⟨fn, tmps, assign, body, hy, hR⟩ := HY.out k _ _ w5 hx1 (HP5.out.ent (ent_each _ _ _ _))
        have HRR := Lib.hid hR
        simp only [encE, statV, Int.natCast_add] at hy
        obtain ⟨c0, c1, c2, c3, c4, c5, c6, c7, c8, c9, c10, c11, c12⟩ := stat_cells hb5
        clear hb5 hR hx1 hx2
        gi_wp2_with fail
        refine ⟨fun h => (by cases h), HRR.out.mono ?_⟩
        rintro e W' (⟨rfl, hpp⟩ | ⟨rfl, hpp⟩)
        · have hpe := hpp.ent ((Pc.Ent.swap _ _ _).trans ((Pc.Ent.refl _).mono ((Pc.Ent.refl _).mono (Pc.Ent.left _ _))))
          have HR : Hid (RelEach l a va K (EachX bx (.slice A l.length c) l) w0 W') := Lib.hid ⟨k + 1, S', by rw [hbs.1]; exact hb, by omega, HX2.out.symm, hpe⟩
          have hm1 : plOf a W' = S'.place := plOf_eq (RsP.is (k := 0) hpe rfl)
          have hm2 : plOf a wr = S.place := plOf_eq HI.out
          have hpl := hbs.2.1
          have hsz := hbs.2.2.1
          clear hpp hpe c0 c1 c2 c3 c4 c5 c6 c7 c8 c9 c10 c11 c12
          gi_wp2_with fail
          exact ⟨HR.out, by omega⟩
        · have HQ := Lib.hid (hpp.ent ((Pc.Ent.refl _).mono ((Pc.Ent.right _ _).trans (Pc.Ent.left _ _))))
          clear hpp c0 c1 c2 c3 c4 c5 c6 c7 c8 c9 c10 c11 c12
          gi_wp2_with fail
          refine bodyPost_ret (results_none rfl _ _ _) rfl ?_
          exact ⟨⟨_, rfl⟩, Or.inr ⟨k + 1, by omega, HQ.out⟩⟩
      · have he1 : (S'.err != 0) = true := by rw [bne_iff_ne]; exact he
        have hk2 : (recs (RSt.new l)).drop k = [] := by rw [← HREC.out, HER.out he]
        have hk3 : k = (recs (RSt.new l)).length := by
          have := List.drop_eq_nil_iff.1 hk2
          omega
        subst hk3
        gi_wp2_with fail
        refine ⟨fun _ h => (by cases h), ?_⟩
        gi_wp2_with fail
        refine bodyPost_ret (results_none rfl _ _ _) rfl ?_
        exact ⟨⟨_, rfl⟩, Or.inl ((HP4.out.still ((Mods.refl [] w4).drewN q5)).ent ((Pc.Ent.right _ _).trans (Pc.Ent.right _ _)))⟩
end Go.Proofs.YtnpokdbpmnkbjaaGreatDoor
namespace Go.Proofs.YtnpokdbpmnkbjaaGreatDoor
open Go.RowKit Me

attribute [local go_sem] Oper.semAt_some
namespace Me
theorem wpListIn_app {F : Fence} {nn : Nat} {P : Program} (w : World) {ops : Array Oper} {rest : List Oper} {o : Oper} {a : Act} {Q : Exit → Act → World → Prop} (hgd : o.guard = none) (s x : Operand) (t tx : TypeId)
    (ho : o.op = .call { callee := .builtin .append, args := #[s, x], argTypes := #[t, tx] })
    (base : Nat) (e : TypeId) (i : TypeInfo) (z : Value) (size bytes : Nat) (ht : P.underlying t = some (.slice e)) (hi : P.info? e = some i) (hz : i.zero = some z)
    (hsize : i.size = size) (hby : i.bytes = bytes) (hzs : z.cells.size = size)
    (v : Value) (n : Nat) (xs : List Value) (hs : a.eval s = v) (hown : w.ownsRow base e size v n xs)
    (vx : Value) (m : Nat) (news : List Value) (hx : a.eval x = vx) (hsrc : Src P size tx vx m news w)
    (h63 : n + m ≤ maxLen) (hbytes : (n + m) * bytes ≤ 140737488355328) (hbase : base ≤ w.heap.size)
    (h : ∀ v' w', w'.ownsRow base e size v' (n + m) (xs ++ news) → w.grownBy w' v.ownBlock → (v'.ownBlock = v.ownBlock ∨ v'.ownBlock = some w.heap.size) → wpListIn F nn P ops Q rest (a.put o.dst v') w') :
    wpListIn F nn P ops Q (o :: rest) a w := by
  refine wpListIn_plain hgd fun K hK => ?_
  obtain ⟨v', w', hr, h2, h3, h4⟩ := run_app (P := P) w base t tx o.type e i z size bytes ht hi hz hsize hby hzs v n xs hown vx m news hsrc h63 hbytes hbase
  unfold Oper.wpIn
  refine ⟨?_, ?_⟩
  · simp [Oper.about, ho, resolve, Target.leads, Sem.run_pure]
  · rw [Oper.semAt_plain F _ _ (by rw [ho]; intro c hc'; cases hc')]
    simp only [execOp, ho, resolve, invoke, builtin, Sem.run_bind, Sem.run_pure, Result.andThen_ok, List.map_toArray, List.map_cons, List.map_nil, hs, hx, hr]
    exact hK _ _ (h v' w' h2 h3 h4)
end Me
def endOf (L : List (Nat × StatP)) : Nat := match L.getLast? with | none => 0 | some x => x.1 + x.2.size
def flatS (L : List (Nat × StatP)) : List Value := L.flatMap fun x => (statV x.2).toList
theorem endOf_snoc (L : List (Nat × StatP)) (x : Nat × StatP) : endOf (L ++ [x]) = x.1 + x.2.size := by simp [endOf]
theorem flatS_snoc (L : List (Nat × StatP)) (x : Nat × StatP) : flatS (L ++ [x]) = flatS L ++ (statV x.2).toList := by simp [flatS]
theorem stat_room {S : RSt} (he : S.stat.2.err = 0) : S.place + S.stat.1.size ≤ S.bytes.length := by
  obtain ⟨h1, -, -, -⟩ := RSt.stat_of (S := S) he
  have h := congrArg List.length h1.rest
  have hz : 49 ≤ S.stat.1.size := by unfold StatP.size; omega
  have hl := S.stat.1.enc_length
  simp only [RSt.rest, List.length_drop, List.length_append] at h
  omega
theorem recsF_mem : ∀ (n : Nat) (S : RSt), ∀ x ∈ recsF n S, x.2.Fits ∧ x.2.err = 0 ∧ x.2.size ≤ S.bytes.length ∧ x.1 + x.2.size ≤ S.base + S.bytes.length
  | 0, _, x, h => by simp [recsF] at h
  | n + 1, S, x, h => by
    unfold recsF at h
    split at h
    · cases h
    · split at h
      · cases h
      · rename_i h0 he
        have he' : S.stat.2.err = 0 := by simpa using he
        rcases List.mem_cons.1 h with rfl | h
        · obtain ⟨-, h2, h3, -⟩ := RSt.stat_of (S := S) he'
          have := stat_room he'
          exact ⟨h2, h3, by show S.stat.1.size ≤ _; omega, by show S.base + S.place + S.stat.1.size ≤ _; omega⟩
        · have := recsF_mem n S.stat.2 x h
          rw [(stat_step he').1, (stat_step he').2.2.2] at this
          exact this
/-- Records, plainly. -/
def records (l : List UInt8) : List (Nat × StatP) × Nat := if endOf (recs (RSt.new l)) = l.length then (recs (RSt.new l), 0) else ([], 20)
def RcK (b4 b5 : Nat) (L : List (Nat × StatP)) (k : Nat) : Pc :=
  Pc.ex fun vl => (Pc.blk b4 (.cells #[vl] 38)).star ((Pc.row 35 13 vl k (flatS (L.take k))).star (Pc.blk b5 (.cells #[.int .i64 (endOf (L.take k) : Int)] 3)))
theorem info90' : (Tryz.prog.info? 35).map (fun i => (i.zero, i.size, i.bytes)) = some (some (.agg zeroV), 13, 112) := by kernel_rfl
theorem nil13 (p : Pc) : Pc.Ent p (p.star (Pc.row 35 13 (.slice none 0 0) 0 [])) := fun w F h =>
  ⟨F ++ [], ⟨F, [], h, ⟨World.ownsRow_nil _ _ _ _, rfl⟩, by simp, rfl⟩, fun k hk => by simpa using hk⟩
theorem Me.Post.ex1 {α : Type} {p : α → Pc} {R : Pc} {w0 w : World} {F : List Nat} (h : Post ((Pc.ex p).star R) w0 F w) : ∃ x, Post ((p x).star R) w0 F w := by
  obtain ⟨F9, ⟨F1, F2, ⟨x, h1⟩, h2, n1, rfl⟩, m1, m2⟩ := h
  exact ⟨x, _, ⟨F1, F2, h1, h2, n1, rfl⟩, m1, m2⟩
theorem recsF_len : ∀ (n : Nat) (S : RSt), (recsF n S).length ≤ n
  | 0, _ => by simp [recsF]
  | n + 1, S => by
    unfold recsF
    split
    · simp
    · split
      · simp
      · have := recsF_len n S.stat.2
        simp
        omega
theorem blk_one {w : World} {b : Nat} {x : Value} {t : TypeId} (h : w.heap[b]? = some (.cells #[x] t (0, 0))) : w.cell? ⟨b, 0, none⟩ = some x ∧ w.frozen? ⟨b, 0, none⟩ = false :=
  ⟨by rw [cell_of_row _ _ _ _ _ _ h]; rfl, frozen_of_row _ _ _ _ _ h⟩
def RecPost (w : World) (l : List UInt8) (e : Ending) (w' : World) : Prop :=
  ∃ vl, e = .returned (.tuple #[vl, .int .i64 ((records l).2 : Int)]) ∧ Post (Pc.row 35 13 vl (records l).1.length (flatS (records l).1)) w [] w'
set_option maxRecDepth 100000 in
set_option maxHeartbeats 2000000 in
theorem records_any {w : World} {vx : Value} (l : List UInt8) (hx : Rd w vx (l.map byteV)) (hl : l.length ≤ 1000000000) (hT : Lib.Utf8Tabs 0 1 w) :
    Calls Tryz.prog 30 #[vx] w (RecPost w l) := by
  have HX := Lib.hid hx
  have HT := Lib.hid hT
  have hp0 : Post Pc.emp w [] w := ⟨[], rfl, Mods.refl _ _, by simp⟩
  have hp1 := (hp0.alloc (.cells #[.slice none 0 0] 38)).alloc (.cells #[.int .i64 0] 3)
  have HP1 := Lib.hid hp1
  have HX1 := Lib.hid (hx.mods hp1.mods (by simp))
  obtain ⟨A, c, rfl, -⟩ := rd_slice hx
  clear hx hT hp0 hp1
  refine (callsIn_wide (n := 3)).1 ?_
  refine callsIn_of_wp_marks Tryz.func30 rfl trivial ?_ rfl
  simp only [Tryz.ntmps30, List.size_toArray, List.length_cons, List.length_nil, Nat.reduceAdd, Nat.reduceSub, Array.replicate_succ, Array.replicate_zero, List.push_toArray, List.append_toArray, List.nil_append, List.cons_append]
  gi_wp2_with fail
  refine ⟨trivial, callsIn_wide.2 ?_⟩
  refine (each_any l HX1.out (by omega)).mono ?_; rintro e w1 ⟨bx, v, rfl, hp⟩
  have hp2 : Post ((EachX bx v l).star ((Pc.blk (w.heap.size + 1) (.cells #[.int .i64 0] 3)).star ((Pc.blk w.heap.size (.cells #[.slice none 0 0] 38)).star Pc.emp))) w [] w1 := by
    obtain ⟨G, g1, g2, g3⟩ := hp
    have h := HP1.out.add g2 g1 (fun k hk => (g3 k hk).elim (fun h => by cases h) id)
    simpa using h
  have hk0 : Post ((RcK w.heap.size (w.heap.size + 1) (recs (RSt.new l)) 0).star (EachX bx v l)) w [] w1 := by
    refine hp2.ent ((Pc.Ent.comm _ _).trans (Pc.Ent.mono ?_ (Pc.Ent.refl _)))
    refine Pc.Ent.to (.slice none 0 0) ?_
    refine (Pc.Ent.comm _ _).trans (((Pc.Ent.left _ _).mono (Pc.Ent.refl _)).trans ((Pc.Ent.refl _).mono ?_))
    exact (nil13 _).trans (Pc.Ent.comm _ _)
  have HK0 := Lib.hid hk0
  clear hp hp2 hk0 HP1
  gi_wp2_with fail
  generalize hb5 : w.heap.size + 1 = b5 at *
  generalize hb4 : w.heap.size = b4 at *
  clear hb4 hb5
  refine wpIn_rangeFunc_pc (gf := 79) rfl (enters_of Tryz.func79 (by kernel_rfl) rfl) (each_seq l (by omega) HT.out) (fun _ => rfl) (RcK b4 b5 (recs (RSt.new l))) (fun _ _ => Pc.when False Pc.emp) HK0.out ?round ?done ?stop
  case round =>
    intro lp k x R W hxk hp
    have HP := Lib.hid hp
    have HXK := Lib.hid hxk
    obtain ⟨pl, s⟩ := x
    have hstore := run_store_new (P := Tryz.prog) W zeroV (statV s) 35 rfl (statV_one s)
    unfold zeroV at hstore
    have HP2 := Lib.hid (hp.alloc (.cells (statV s) 35))
    clear hp hxk
    unfold encE
    simp only [Array.zip]
    gi_wp2_with fail
    refine ⟨(Pc.blk W.heap.size (.cells (statV s) 35)).star (RcK b4 b5 (recs (RSt.new l)) k), HP2.out.ent (Pc.Ent.assoc' _ _ _), ?_⟩
    intro R2 W2 hp2
    have hlen := recsF_len ((RSt.new l).bytes.length + 1) (RSt.new l)
    have hkl : k < (recs (RSt.new l)).length := (List.getElem?_eq_some_iff.1 HXK.out).1
    have hkb : k ≤ 1000000001 := by
      have h1 : (recs (RSt.new l)).length ≤ l.length + 1 := hlen
      omega
    clear hstore HP HP2 hlen
    generalize W.heap.size = b7 at *
    obtain ⟨vl, hp3⟩ := Post.ex1 ((hp2.ent (Pc.Ent.assoc _ _ _)).ent (Pc.Ent.swap _ _ _))
    have hp4 := hp3.ent ((Pc.Ent.assoc _ _ _).trans ((Pc.Ent.refl _).mono (Pc.Ent.assoc _ _ _)))
    have HP4 := Lib.hid hp4
    obtain ⟨e0, e1⟩ := blk_one (hp4.blkOf (Pc.Ent.left _ _))
    have hr := hp4.rowAt ((Pc.Ent.right _ _).trans (Pc.Ent.left _ _))
    obtain ⟨Al, cl, rfl⟩ := own_ctor hr
    have HR := Lib.hid hr
    obtain ⟨c0, c1, c2, c3, c4, c5, c6, c7, c8, c9, c10, c11, c12⟩ := stat_cells (hp4.blkOf ((Pc.Ent.right _ _).trans ((Pc.Ent.right _ _).trans ((Pc.Ent.right _ _).trans (Pc.Ent.left _ _)))))
    obtain ⟨i0, hi, hz0, hz1, hz2⟩ := info_parts info90'
    clear hp2 hp3 hp4 hr
    gi_wp2_with (gi_at_builtin; refine wpListIn_app _ rfl _ _ 38 38 rfl 0 35 i0 (.agg zeroV) 13 112 Tryz.underlying38 hi hz0 hz1 hz2 rfl _ k _ rfl (HR.out.alloc _) _ 1 (statV s).toList rfl ?f1 ?f2 ?f3 ?f4 ?_)
    case f1 => exact Src.ofSlice _ Tryz.underlying38 _ _ _ _ rfl (cells_new W2 (statV s).toList 35) (statV_one s)
    case f2 => unfold maxLen; omega
    case f3 => omega
    case f4 => exact Nat.zero_le _
    intro vl2 W3 hown hgrow hat
    have hp5 := ((HP4.out.ent (Pc.Ent.swap _ _ _)).step (row_turn hown hgrow (by simpa using hat))).ent (Pc.Ent.swap _ _ _)
    obtain ⟨Al2, cl2, rfl⟩ := own_ctor hown
    clear e0 e1 c0 c1 c2 c3 c4 c5 c6 c7 c8 c9 c10 c11 c12
    obtain ⟨e0, e1⟩ := blk_one (hp5.blkOf (Pc.Ent.left _ _))
    have hp6 := hp5.step (blk_turn (i := 0) (.slice Al2 (k + 1) cl2))
    have HP6 := Lib.hid hp6
    obtain ⟨c0, c1, c2, c3, c4, c5, c6, c7, c8, c9, c10, c11, c12⟩ := stat_cells (hp6.blkOf ((Pc.Ent.right _ _).trans ((Pc.Ent.right _ _).trans ((Pc.Ent.right _ _).trans (Pc.Ent.left _ _)))))
    have hsz : s.size ≤ 600000000000000 := by
      have h1 := (recsF_mem _ _ _ (List.mem_of_getElem? HXK.out)).2.2.1
      have h2 : s.size ≤ l.length := h1
      omega
    have hpl : pl + s.size ≤ l.length := by
      have h1 := (recsF_mem _ _ _ (List.mem_of_getElem? HXK.out)).2.2.2
      have h2 : pl + s.size ≤ 0 + l.length := h1
      omega
    have HSZ := Lib.hid (fun w' => size_any s w' hsz)
    clear hp5 hp6 hown hgrow hat HP4 HR
    gi_wp2_with fail
    refine ⟨trivial, ?_⟩
    refine (CallsIn.inRound lp (callsIn_wide.2 (HSZ.out _))).mono ?_; rintro e W7 ⟨rfl, hm7⟩
    have hp7 := HP6.out.still hm7
    obtain ⟨x0, x1⟩ := blk_one (hp7.blkOf ((Pc.Ent.right _ _).trans ((Pc.Ent.right _ _).trans (Pc.Ent.left _ _))))
    have hp8 := ((hp7.ent (Pc.Ent.at3 _ _ _ _)).step (blk_turn (i := 0) (.int .i64 ((pl : Int) + (s.size : Int))))).ent ((Pc.Ent.swap _ _ _).trans ((Pc.Ent.refl _).mono (Pc.Ent.swap _ _ _)))
    have hp9 : Post ((RcK b4 b5 (recs (RSt.new l)) (k + 1)).star R2) w [] (W7.setCell ⟨b5, 0, none⟩ (.int .i64 ((pl : Int) + (s.size : Int)))) := by
      refine hp8.ent (Pc.Ent.trans ?_ (Pc.Ent.mono (Pc.Ent.to (.slice Al2 (k + 1) cl2) (Pc.Ent.refl _)) (Pc.Ent.refl R2)))
      have et : (recs (RSt.new l)).take (k + 1) = (recs (RSt.new l)).take k ++ [(pl, s)] := by rw [List.take_add_one, HXK.out]; rfl
      rw [et, flatS_snoc, endOf_snoc]
      refine ((Pc.Ent.refl _).mono (((Pc.Ent.refl _).mono ((Pc.Ent.refl _).mono (Pc.Ent.right _ _))).trans (Pc.Ent.assoc' _ _ _))).trans (Pc.Ent.assoc' _ _ _)
    have HP9 := Lib.hid hp9
    clear hp7 hp8 hp9 hm7
    gi_wp2_with fail
    exact HP9.out
  case done =>
    intro D W hp
    obtain ⟨vl, hp3⟩ := Post.ex1 hp
    have hp4 := hp3.ent ((Pc.Ent.assoc _ _ _).trans ((Pc.Ent.refl _).mono (Pc.Ent.assoc _ _ _)))
    have HP4 := Lib.hid hp4
    obtain ⟨e0, e1⟩ := blk_one (hp4.blkOf (Pc.Ent.left _ _))
    obtain ⟨x0, x1⟩ := blk_one (hp4.blkOf ((Pc.Ent.right _ _).trans ((Pc.Ent.right _ _).trans (Pc.Ent.left _ _))))
    have hK := hp4.blkOf ((Pc.Ent.right _ _).trans ((Pc.Ent.right _ _).trans ((Pc.Ent.right _ _).trans (Pc.Ent.right _ _))))
    rw [List.take_length] at x0
    by_cases hend : endOf (recs (RSt.new l)) = l.length
    · have hne : ((endOf (recs (RSt.new l)) : Int) != (l.length : Int)) = false := by rw [hend]; simp
      have HREC : Hid (records l = (recs (RSt.new l), 0)) := Lib.hid (by unfold records; rw [if_pos hend])
      have HK := Lib.hid hK
      clear hp hp3 hp4 hend hK
      gi_wp2_with fail
      refine ⟨by simp, .inl ⟨_, _, rfl, run_takeDeferred HK.out, ?_⟩⟩
      refine ⟨_, results_tmp2 rfl _ _ _, vl, ?_, ?_⟩
      · rw [HREC.out]
        rfl
      · rw [HREC.out]
        have hq := ((HP4.out.ent ((Pc.Ent.right _ _).trans (((Pc.Ent.refl _).mono ((Pc.Ent.right _ _).trans (Pc.Ent.right _ _))).trans (Pc.Ent.comm _ _)))).step (put_turn (o' := .deferred none))).ent (Pc.Ent.right _ _)
        rw [List.take_length] at hq
        exact hq
    · have hne : ((endOf (recs (RSt.new l)) : Int) != (l.length : Int)) = true := by rw [bne_iff_ne]; omega
      have HREC : Hid (records l = ([], 20)) := Lib.hid (by unfold records; rw [if_neg hend])
      have HK := Lib.hid hK
      clear hp hp3 hp4 hend hK
      gi_wp2_with fail
      refine ⟨by simp, .inl ⟨_, _, rfl, run_takeDeferred HK.out, ?_⟩⟩
      refine ⟨_, results_tmp2 rfl _ _ _, .slice none 0 0, ?_, ?_⟩
      · rw [HREC.out]
        rfl
      · rw [HREC.out]
        have hq := ((HP4.out.ent ((Pc.Ent.right _ _).trans (((Pc.Ent.refl _).mono ((Pc.Ent.right _ _).trans (Pc.Ent.right _ _))).trans (Pc.Ent.comm _ _)))).step (put_turn (o' := .deferred none))).ent ((nil13 _).trans (Pc.Ent.right _ _))
        exact hq
  case stop =>
    intro D c k W _ hp
    obtain ⟨F9, ⟨F1, F2, ⟨h, _⟩, _⟩, _⟩ := hp
    exact h.elim
end Go.Proofs.YtnpokdbpmnkbjaaGreatDoor
namespace Go.Proofs.YtnpokdbpmnkbjaaGreatDoor
open Go.RowKit Me

theorem run_store_stat (w : World) (s : StatP) : (storeCells ⟨w.heap.size, 0, none⟩ (statV s).toList).run Tryz.prog (w.alloc (.cells #[.int .u16 0, .int .u32 0, .int .u8 0, .int .u32 0, .int .u64 0, .int .u32 0, .int .u32 0, .int .u32 0, .int .u64 0, .string ⟨#[]⟩, .string ⟨#[]⟩, .string ⟨#[]⟩, .string ⟨#[]⟩] 35)) = .ok () (w.alloc (.cells (statV s) 35)) :=
  run_store_new (P := Tryz.prog) w zeroV (statV s) 35 rfl (statV_one s)
end Go.Proofs.YtnpokdbpmnkbjaaGreatDoor
