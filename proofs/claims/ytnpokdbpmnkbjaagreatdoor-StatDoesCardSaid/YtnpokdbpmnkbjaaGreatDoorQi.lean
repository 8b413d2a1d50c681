/- A range over a function whose captured memory stays with the caller (so that a range may lie within a range over the same function); Each's iterator again, in this form. | A drawn region that only reads, within a round of a range over a function. Over any program. -/
import Derived.Test.YtnpokdbpmnkbjaaGreatDoorOf
import Derived.RangeFuncNested
import Derived.Sort.QuietIn
import Derived.OwnWalkIn
namespace Go.Proofs.YtnpokdbpmnkbjaaGreatDoor.Me
open Go Go.RowKit

/-- The iterator's contract: it hands out the elements of L, in order, round for round; what it reads (X) stays with the caller. -/
def SeqX {α : Type} (P : Program) (g : Nat) (lb : Array Value) (encs : α → Array Value) (X : Pc) (L : List α) (w0 : World) (F0 : List Nat) : Prop :=
  ∀ (n l : Nat) (K Kx : Nat → Pc) (W : World),
    (∀ (k : Nat) (x : α) (R : Pc) (W1 : World), L[k]? = some x → Post ((K k).star R) w0 F0 W1 → YieldAt Fence.wide (n - 1) P l (encs x) W1 fun e W' =>
      (e = .returned (.bool true) ∧ Post ((K (k + 1)).star R) w0 F0 W') ∨ (e = .returned (.bool false) ∧ Post ((Kx (k + 1)).star R) w0 F0 W')) →
    Pc.Ent (K 0) X → Post (K 0) w0 F0 W →
    CallsIn Fence.wide n P g (#[.func (.yield l) #[] #[]] ++ lb) W fun e W' => (∃ v, e = .returned v) ∧ (Post (K L.length) w0 F0 W' ∨ ∃ k, k ≤ L.length ∧ Post (Kx k) w0 F0 W')
theorem Post.exm {α : Type} {p : α → Pc} {w0 w : World} {F : List Nat} (h : Post (Pc.ex p) w0 F w) : ∃ x, Post (p x) w0 F w := by
  obtain ⟨F9, ⟨x, h1⟩, m1, m2⟩ := h
  exact ⟨x, _, h1, m1, m2⟩
theorem wpIn_rangeFunc_x {P : Program} {n : Nat} {α : Type} {g : Operand} {ps : Array Tmp} {assign body : Code} {Q : Exit → Act → World → Prop} {a : Act} {w : World}
    {gf : Nat} {lb : Array Value} (hg : a.eval g = .func (.func gf) #[] lb) (eg : ∀ args w, (callFunc gf args).run P w = .ok (.enter gf args) w)
    {encs : α → Array Value} {X : Pc} {L : List α} {w0 : World} {F0 : List Nat} (hseq : SeqX P gf lb encs X L w0 F0) (hps : ∀ x, (encs x).size = ps.size)
    (K : Nat → Pc) (Kx : Code → Nat → Pc) (hX : Pc.Ent (K 0) X) (h0 : Post (K 0) w0 F0 w)
    (hround : ∀ (l : Nat) (k : Nat) (x : α) (R : Pc) (W : World), L[k]? = some x → Post ((K k).star R) w0 F0 W →
      assign.wpIn (Fence.wide.inRound l) (n - 1 - 1) P (Exit.then (fun a₁ W₁ => ∃ M : Pc, Post (M.star R) w0 F0 W₁ ∧ ∀ (r : Loop) (R₂ : Pc) (W₂ : World), Post (M.star ((Pc.blk l (.loop r)).star R₂)) w0 F0 W₂ → body.wpIn (Fence.wide.inRound l) (n - 1 - 1) P (pcPost K Kx ((Pc.blk l (.loop r)).star R₂) (k + 1) w0 F0) a₁ W₂) (fun _ _ _ => False))
        { tmps := (ps.zip (encs x)).foldl (fun t (p, v) => t.setIfInBounds p v) a.tmps, defers := [] } W)
    (hdone : ∀ (D : Nat) (W : World), Post ((K L.length).star (Pc.blk D (.deferred (some [])))) w0 F0 W → Q .normal { a with defers := { target := .collected D, args := #[] } :: a.defers } W)
    (hstop : ∀ (D : Nat) (c : Code) (k : Nat) (W : World), k ≤ L.length → Post ((Kx c k).star (Pc.blk D (.deferred (some [])))) w0 F0 W → c.wpIn Fence.wide n P Q { a with defers := { target := .collected D, args := #[] } :: a.defers } W) :
    (Code.rangeFunc g ps assign body).wpIn Fence.wide n P Q a w := by
  refine wpIn_rangeFunc ?_
  intro fn hfn
  obtain ⟨rec, hrec⟩ : ∃ rec : LoopState → Option Code → Loop, rec = fun st pe => { state := st, pending := pe, fn, tmps := a.tmps, params := ps, assign, body, defers := w.heap.size } := ⟨_, rfl⟩
  obtain ⟨W1, hW1⟩ : ∃ W1, (w.alloc (.deferred (some []))).alloc (.loop (rec .ready none)) = W1 := ⟨_, rfl⟩
  have hA := (h0.alloc (.deferred (some []))).alloc (.loop (rec .ready none))
  rw [hW1, World.size_alloc] at hA
  have hB : Post ((K 0).star ((Pc.blk (w.heap.size + 1) (.loop (rec .ready none))).star (Pc.blk w.heap.size (.deferred (some []))))) w0 F0 W1 :=
    hA.ent ((Pc.Ent.assoc' _ _ _).trans (Pc.Ent.comm _ _))
  refine ⟨w.heap.size + 1, [{ target := .collected w.heap.size, args := #[] }], W1, { target := .fn (.func gf) lb, args := #[.func (.yield (w.heap.size + 1)) #[] #[]] }, W1, gf,
    #[.func (.yield (w.heap.size + 1)) #[] #[]] ++ lb, W1, ?_, ?_, ?_, ?_, fun h => (by cases h), ?_⟩
  · rw [← hW1, hrec]; exact run_enterLoop_outer _ _ _ _ _
  · simp only [resolve, hg]
    simp [go_sem]
  · intro f' _; trivial
  · simp [invoke, go_sem, eg]
  · refine (hseq (n - 1) (w.heap.size + 1)
      (fun k => (K k).star ((Pc.blk (w.heap.size + 1) (.loop (rec .ready none))).star (Pc.blk w.heap.size (.deferred (some [])))))
      (fun k => Pc.ex fun c => (Kx c k).star ((Pc.blk (w.heap.size + 1) (.loop (rec .done (some c)))).star (Pc.blk w.heap.size (.deferred (some [])))))
      W1 ?_ ((Pc.Ent.left _ _).trans hX) hB).mono ?_
    · intro k x R W hx hp
      have hp1 := hp.ent (ent_law _ _ _ _)
      have hl := hp1.blkOf (Pc.Ent.left _ _)
      have hy := run_yield (P := P) (args := encs x) hl (by rw [hrec]; exact hps x)
      rw [hrec] at hy
      have hfull := hp1.ent (Pc.Ent.swap _ _ _)
      refine ⟨fn, _, assign, body, hy, roundIn_of_wpIn hfn (wpIn_mono (hround (w.heap.size + 1) k x _ W hx hfull) ?_)⟩
      intro e a1 W2 he
      cases e with
      | normal =>
        obtain ⟨M, h2, hb⟩ := he
        have h2' := h2.ent (Pc.Ent.swap _ _ _)
        have hl2 := h2'.blkOf (Pc.Ent.left _ _)
        refine ⟨_, run_beginRound hl2 (by rw [hrec]), ?_⟩
        have h3 := (h2'.step (put_turn (o' := .loop { rec .ready none with state := .busy }))).ent (Pc.Ent.swap _ _ _)
        refine wpIn_mono (hb _ _ _ h3) ?_
        have fin : ∀ (jump : Option Code) (KK : Pc) (W3 : World), Post (KK.star ((Pc.blk (w.heap.size + 1) (.loop { rec .ready none with state := .busy })).star ((Pc.blk w.heap.size (.deferred (some []))).star R))) w0 F0 W3 →
            (Instr.endRound (w.heap.size + 1) jump).run P W3 = .ok (.bool jump.isNone) (W3.putObj (w.heap.size + 1) (.loop (rec (if jump.isNone then .ready else .done) jump))) ∧
            Post (((KK).star ((Pc.blk (w.heap.size + 1) (.loop (rec (if jump.isNone then .ready else .done) jump))).star (Pc.blk w.heap.size (.deferred (some []))))).star R) w0 F0 (W3.putObj (w.heap.size + 1) (.loop (rec (if jump.isNone then .ready else .done) jump))) := fun jump KK W3 h4 => by
          have h4' := h4.ent (Pc.Ent.swap _ _ _)
          have hl3 := h4'.blkOf (Pc.Ent.left _ _)
          have := run_endRound (P := P) jump hl3
          rw [hrec] at this
          refine ⟨by rw [hrec]; exact this, ?_⟩
          exact ((h4'.step (put_turn (o' := .loop (rec (if jump.isNone then .ready else .done) jump)))).ent (ent_law' _ _ _ _))
        rintro e a3 W3 hp
        cases e with
        | normal =>
          obtain ⟨hr, h5⟩ := fin none _ W3 hp
          exact ⟨_, _, hr, .inl ⟨rfl, h5⟩⟩
        | ret =>
          obtain ⟨hr, h5⟩ := fin (some .ret) _ W3 hp
          exact ⟨_, _, hr, .inr ⟨rfl, h5.ent ((Pc.Ent.to (p := fun c => (Kx c (k + 1)).star ((Pc.blk (w.heap.size + 1) (.loop (rec .done (some c)))).star (Pc.blk w.heap.size (.deferred (some [])))))  .ret (Pc.Ent.refl _)).mono (Pc.Ent.refl _))⟩⟩
        | exit id =>
          obtain ⟨hr, h5⟩ := fin (some (.exit id)) _ W3 hp
          exact ⟨_, _, hr, .inr ⟨rfl, h5.ent ((Pc.Ent.to (p := fun c => (Kx c (k + 1)).star ((Pc.blk (w.heap.size + 1) (.loop (rec .done (some c)))).star (Pc.blk w.heap.size (.deferred (some [])))))  (.exit id) (Pc.Ent.refl _)).mono (Pc.Ent.refl _))⟩⟩
        | goto t =>
          obtain ⟨hr, h5⟩ := fin (some (.goto t)) _ W3 hp
          exact ⟨_, _, hr, .inr ⟨rfl, h5.ent ((Pc.Ent.to (p := fun c => (Kx c (k + 1)).star ((Pc.blk (w.heap.size + 1) (.loop (rec .done (some c)))).star (Pc.blk w.heap.size (.deferred (some [])))))  (.goto t) (Pc.Ent.refl _)).mono (Pc.Ent.refl _))⟩⟩
        | panic ch => exact hp.elim
        | outgrown => exact hp.elim
      | ret => exact he.elim
      | exit id => exact he.elim
      | goto t => exact he.elim
      | panic ch => exact he.elim
      | outgrown => exact he.elim
    · rintro e W2 ⟨⟨v, rfl⟩, hh⟩
      rcases hh with hh | ⟨k, hk, hh⟩
      · have h1 := hh.ent (Pc.Ent.swap _ _ _)
        have hl := h1.blkOf (Pc.Ent.left _ _)
        refine ⟨none, _, by have := run_endLoop (P := P) hl (by rw [hrec]; simp); rw [hrec] at this; exact this, hdone _ _ ?_⟩
        exact (h1.step put_turn).ent (Pc.Ent.right _ _)
      · obtain ⟨c, hh'⟩ := Post.exm hh
        have h1 := hh'.ent (Pc.Ent.swap _ _ _)
        have hl := h1.blkOf (Pc.Ent.left _ _)
        refine ⟨some c, _, by have := run_endLoop (P := P) hl (by rw [hrec]; simp); rw [hrec] at this; exact this, hstop _ c k _ hk ?_⟩
        exact (h1.step put_turn).ent (Pc.Ent.right _ _)
theorem wpIn_rangeFunc_xi {P : Program} {n : Nat} {α : Type} {g : Operand} {ps : Array Tmp} {assign body : Code} {Q : Exit → Act → World → Prop} {a : Act} {w : World}
    {gf : Nat} {lb : Array Value} (hg : a.eval g = .func (.func gf) #[] lb) (eg : ∀ args w, (callFunc gf args).run P w = .ok (.enter gf args) w)
    {lo : Nat} {r0 : Loop}
    {encs : α → Array Value} {X : Pc} {L : List α} {w0 : World} {F0 : List Nat} (hseq : SeqX P gf lb encs X L w0 F0) (hps : ∀ x, (encs x).size = ps.size)
    (K : Nat → Pc) (Kx : Code → Nat → Pc) (hX : Pc.Ent (K 0) X) (h0 : Post (K 0) w0 F0 w)
    (hlo : Pc.Ent (K 0) (Pc.blk lo (.loop r0)))
    (hround : ∀ (l : Nat) (k : Nat) (x : α) (R : Pc) (W : World), L[k]? = some x → Post ((K k).star R) w0 F0 W →
      assign.wpIn (Fence.wide.inRound l) (n - 1 - 1) P (Exit.then (fun a₁ W₁ => ∃ M : Pc, Post (M.star R) w0 F0 W₁ ∧ ∀ (r : Loop) (R₂ : Pc) (W₂ : World), Post (M.star ((Pc.blk l (.loop r)).star R₂)) w0 F0 W₂ → body.wpIn (Fence.wide.inRound l) (n - 1 - 1) P (pcPost K Kx ((Pc.blk l (.loop r)).star R₂) (k + 1) w0 F0) a₁ W₂) (fun _ _ _ => False))
        { tmps := (ps.zip (encs x)).foldl (fun t (p, v) => t.setIfInBounds p v) a.tmps, defers := [] } W)
    (hdone : ∀ (W : World), Post (K L.length) w0 F0 W → Q .normal a W)
    (hstop : ∀ (c : Code) (k : Nat) (W : World), k ≤ L.length → Post (Kx c k) w0 F0 W → c.wpIn (Fence.wide.inRound lo) n P Q a W) :
    (Code.rangeFunc g ps assign body).wpIn (Fence.wide.inRound lo) n P Q a w := by
  refine wpIn_rangeFunc ?_
  intro fn hfn
  obtain ⟨rec, hrec⟩ : ∃ rec : LoopState → Option Code → Loop, rec = fun st pe => { state := st, pending := pe, fn, tmps := a.tmps, params := ps, assign, body, defers := r0.defers } := ⟨_, rfl⟩
  obtain ⟨W1, hW1⟩ : ∃ W1, w.alloc (.loop (rec .ready none)) = W1 := ⟨_, rfl⟩
  have hl0 := h0.blkOf hlo
  have hA := h0.alloc (.loop (rec .ready none))
  rw [hW1] at hA
  have hB : Post ((K 0).star (Pc.blk w.heap.size (.loop (rec .ready none)))) w0 F0 W1 := hA.ent (Pc.Ent.comm _ _)
  refine ⟨w.heap.size, [], W1, { target := .fn (.func gf) lb, args := #[.func (.yield w.heap.size) #[] #[]] }, W1, gf,
    #[.func (.yield w.heap.size) #[] #[]] ++ lb, W1, ?_, ?_, ?_, ?_, fun h => (by cases h), ?_⟩
  · rw [← hW1, hrec]; exact run_enterLoop_inner hl0 _ _ _ _ _
  · simp only [resolve, hg]
    simp [go_sem]
  · intro f' _; trivial
  · simp [invoke, go_sem, eg]
  · refine (CallsIn.inRound lo (hseq (n - 1) w.heap.size
      (fun k => (K k).star (Pc.blk w.heap.size (.loop (rec .ready none))))
      (fun k => Pc.ex fun c => (Kx c k).star (Pc.blk w.heap.size (.loop (rec .done (some c)))))
      W1 ?_ ((Pc.Ent.left _ _).trans hX) hB)).mono ?_
    · intro k x R W hx hp
      have hp1 := hp.ent ((Pc.Ent.assoc _ _ _).trans (Pc.Ent.swap _ _ _))
      have hl := hp1.blkOf (Pc.Ent.left _ _)
      have hy := run_yield (P := P) (args := encs x) hl (by rw [hrec]; exact hps x)
      rw [hrec] at hy
      have hfull := hp1.ent (Pc.Ent.swap _ _ _)
      refine ⟨fn, _, assign, body, hy, roundIn_of_wpIn hfn (wpIn_mono (hround w.heap.size k x _ W hx hfull) ?_)⟩
      intro e a1 W2 he
      cases e with
      | normal =>
        obtain ⟨M, h2, hb⟩ := he
        have h2' := h2.ent (Pc.Ent.swap _ _ _)
        have hl2 := h2'.blkOf (Pc.Ent.left _ _)
        refine ⟨_, run_beginRound hl2 (by rw [hrec]), ?_⟩
        have h3 := (h2'.step (put_turn (o' := .loop { rec .ready none with state := .busy }))).ent (Pc.Ent.swap _ _ _)
        refine wpIn_mono (hb _ _ _ h3) ?_
        have fin : ∀ (jump : Option Code) (KK : Pc) (W3 : World), Post (KK.star ((Pc.blk w.heap.size (.loop { rec .ready none with state := .busy })).star R)) w0 F0 W3 →
            (Instr.endRound w.heap.size jump).run P W3 = .ok (.bool jump.isNone) (W3.putObj w.heap.size (.loop (rec (if jump.isNone then .ready else .done) jump))) ∧
            Post (((KK).star (Pc.blk w.heap.size (.loop (rec (if jump.isNone then .ready else .done) jump)))).star R) w0 F0 (W3.putObj w.heap.size (.loop (rec (if jump.isNone then .ready else .done) jump))) := fun jump KK W3 h4 => by
          have h4' := h4.ent (Pc.Ent.swap _ _ _)
          have hl3 := h4'.blkOf (Pc.Ent.left _ _)
          have := run_endRound (P := P) jump hl3
          rw [hrec] at this
          refine ⟨by rw [hrec]; exact this, ?_⟩
          exact ((h4'.step (put_turn (o' := .loop (rec (if jump.isNone then .ready else .done) jump)))).ent ((Pc.Ent.swap _ _ _).trans (Pc.Ent.assoc' _ _ _)))
        rintro e a3 W3 hp
        cases e with
        | normal =>
          obtain ⟨hr, h5⟩ := fin none _ W3 hp
          exact ⟨_, _, hr, .inl ⟨rfl, h5⟩⟩
        | ret =>
          obtain ⟨hr, h5⟩ := fin (some .ret) _ W3 hp
          exact ⟨_, _, hr, .inr ⟨rfl, h5.ent ((Pc.Ent.to (p := fun c => (Kx c (k + 1)).star (Pc.blk w.heap.size (.loop (rec .done (some c)))))  .ret (Pc.Ent.refl _)).mono (Pc.Ent.refl _))⟩⟩
        | exit id =>
          obtain ⟨hr, h5⟩ := fin (some (.exit id)) _ W3 hp
          exact ⟨_, _, hr, .inr ⟨rfl, h5.ent ((Pc.Ent.to (p := fun c => (Kx c (k + 1)).star (Pc.blk w.heap.size (.loop (rec .done (some c)))))  (.exit id) (Pc.Ent.refl _)).mono (Pc.Ent.refl _))⟩⟩
        | goto t =>
          obtain ⟨hr, h5⟩ := fin (some (.goto t)) _ W3 hp
          exact ⟨_, _, hr, .inr ⟨rfl, h5.ent ((Pc.Ent.to (p := fun c => (Kx c (k + 1)).star (Pc.blk w.heap.size (.loop (rec .done (some c)))))  (.goto t) (Pc.Ent.refl _)).mono (Pc.Ent.refl _))⟩⟩
        | panic ch => exact hp.elim
        | outgrown => exact hp.elim
      | ret => exact he.elim
      | exit id => exact he.elim
      | goto t => exact he.elim
      | panic ch => exact he.elim
      | outgrown => exact he.elim
    · rintro e W2 ⟨⟨v, rfl⟩, hh⟩
      rcases hh with hh | ⟨k, hk, hh⟩
      · have h1 := hh.ent (Pc.Ent.comm _ _)
        have hl := h1.blkOf (Pc.Ent.left _ _)
        refine ⟨none, _, by have := run_endLoop (P := P) hl (by rw [hrec]; simp); rw [hrec] at this; exact this, hdone _ ?_⟩
        exact (h1.step put_turn).ent (Pc.Ent.right _ _)
      · obtain ⟨c, hh'⟩ := Post.exm hh
        have h1 := hh'.ent (Pc.Ent.comm _ _)
        have hl := h1.blkOf (Pc.Ent.left _ _)
        refine ⟨some c, _, by have := run_endLoop (P := P) hl (by rw [hrec]; simp); rw [hrec] at this; exact this, ?_⟩
        exact hstop c k _ hk ((h1.step put_turn).ent (Pc.Ent.right _ _))
end Go.Proofs.YtnpokdbpmnkbjaaGreatDoor.Me
namespace Go.Proofs.YtnpokdbpmnkbjaaGreatDoor
open Go.RowKit Me

attribute [local go_sem] Oper.semAt_some
theorem ent_eachx (s p q : Pc) : Pc.Ent (s.star (p.star q)) (q.star (p.star s)) :=
  (Pc.Ent.swap s p q).trans (((Pc.Ent.refl p).mono (Pc.Ent.comm s q)).trans (Pc.Ent.swap p q s))
def RelEachX (l : List UInt8) (a : Nat) (va : Value) (K : Nat → Pc) (w0 : World) (wr : World) : Prop :=
  ∃ (k : Nat) (S : RSt), S.bytes.length = l.length ∧ k ≤ (recs (RSt.new l)).length ∧ recs S = (recs (RSt.new l)).drop k ∧ Post ((RsP 140 [⟨a, S, va⟩]).star (K k)) w0 [] wr
set_option maxRecDepth 100000 in
set_option maxHeartbeats 1000000 in
theorem each_seqx {w0 : World} {bx : Nat} {v : Value} (l : List UInt8) (hl : l.length ≤ 70000000000000) (hT : Lib.Utf8Tabs 0 1 w0) :
    SeqX Tryz.prog 79 #[.pointer (some ⟨bx, 0, none⟩)] encE (EachX bx v l) (recs (RSt.new l)) w0 [] := by
  intro n lp K Kx W hY hX h0
  have HY := Lib.hid hY
  have H0 := Lib.hid h0
  have HT := Lib.hid hT
  have hbx := h0.blkOf (hX.trans (Pc.Ent.left _ _))
  have hrow := h0.rowAt (hX.trans (Pc.Ent.right _ _))
  have HRD := Lib.hid (Rd.of_own hrow)
  obtain ⟨A, c, rfl⟩ := own_ctor hrow
  have d0 : W.cell? ⟨bx, 0, none⟩ = some (.slice A l.length c) := by rw [cell_of_row _ _ _ _ _ _ hbx]; rfl
  clear hY h0 hT hbx hrow hX
  refine callsIn_of_wp Tryz.func79 rfl trivial ?_ rfl
  simp only [Tryz.ntmps79, List.size_toArray, List.length_cons, List.length_nil, Nat.reduceAdd, Nat.reduceSub, Array.replicate_succ, Array.replicate_zero, List.push_toArray, List.append_toArray, List.nil_append, List.cons_append]
  gi_wp2_with fail
  refine ⟨trivial, fun h => (by cases h), callsIn_wide.2 ?_⟩
  refine (newReader_any l HRD.out hl).mono ?_; rintro e w1 ⟨a, va, rfl, hi, hown, ha, hm⟩
  have hp1 : Post (RsP 140 [⟨a, RSt.new l, va⟩]) W [] w1 := RsP.new (L := []) ⟨[], RsP.nil _ _, Mods.refl _ _, by simp⟩ hm hi (fun q hq => hown.lt q hq) ha
  have hq1 : Post ((RsP 140 [⟨a, RSt.new l, va⟩]).star (K 0)) w0 [] w1 := by
    obtain ⟨G, g1, g2, g3⟩ := hp1
    exact H0.out.add g2 g1 (fun k hk => (g3 k hk).elim (fun h => by cases h) id)
  have H1 := Lib.hid hq1
  clear hi hown hm hp1 hq1 d0
  gi_wp2_with fail
  have ha2 : 2 ≤ a := by
    have h1 := tabs_two HT.out
    have h2 := H0.out.mods.size
    omega
  gi_loopw [4] (fun _ wr => RelEachX l a va K w0 wr) (fun _ wr => l.length - plOf a wr)
  case atStart => exact ⟨0, RSt.new l, rfl, by omega, rfl, H1.out⟩
  case round =>
    obtain ⟨k, S, hb, hk, hrec, hp⟩ := hrel
    have hi := RsP.is (k := 0) hp rfl
    have HP := Lib.hid hp
    have HI := Lib.hid hi
    have HREC := Lib.hid hrec
    have HLN := Lib.hid (fun m => (left_any (hi.drewN m)))
    clear hp hrec
    by_cases h0 : S.left = 0
    · have hk2 : (recs (RSt.new l)).drop k = [] := by rw [← HREC.out, recs_stop h0]
      have hk3 : k = (recs (RSt.new l)).length := by
        have := List.drop_eq_nil_iff.1 hk2
        omega
      subst hk3
      rw [h0] at HLN
      gi_wp2_with fail
      refine ⟨trivial, fun h => (by cases h), callsIn_wide.2 ?_⟩
      refine (HLN.out 0).mono ?_; rintro e w2 ⟨rfl, q, rfl⟩
      gi_wp2_with fail
      go_end0
      exact ⟨⟨_, rfl⟩, Or.inl ((HP.out.still ((Mods.refl [] wr).drewN q)).ent (Pc.Ent.right _ _))⟩
    · have hl0 : 0 < S.left := by omega
      have hpos := left_pos h0
      have HH0 := Lib.hid h0
      have hT2 : ∀ m, Lib.Utf8Tabs 0 1 (wr.drewN m) := fun m => tabs_mods (HP.out.mods.drewN m) HT.out
      have hva : ∀ q, va.ownBlock = some q → q < wr.heap.size := by
        obtain ⟨F1, hF⟩ := HP.out.front
        exact fun q hq => hF.2.1 va (by simp) q hq
      have HAT := Lib.hid (fun m => at_any (hi.drewN m))
      have HTK := Lib.hid (fun m => RsP.call (k := 0) (HP.out.still ((Mods.refl [] wr).drewN m)) rfl (fun h => take_any h hva ha2 (hT2 m)))
      have hst := fun he => stat_step (S := S) he
      have HNX := Lib.hid (fun he => recs_next (S := S) h0 he)
      have HER := Lib.hid (fun he => recs_err (S := S) he)
      clear hva hT2 h0
      generalize hRR : S.stat = R9 at *
      obtain ⟨s, S'⟩ := R9
      simp only at HTK hst HNX HER
      gi_wp2_with fail
      refine ⟨trivial, fun h => (by cases h), callsIn_wide.2 ?_⟩
      refine (HLN.out 0).mono ?_; rintro e w2 ⟨rfl, q, rfl⟩
      gi_wp2_with fail
      refine ⟨trivial, fun h => (by cases h), callsIn_wide.2 ?_⟩
      refine (HAT.out _).mono ?_; rintro e w2 ⟨rfl, q2, rfl⟩
      rw [World.drewN_drewN]
      gi_wp2_with fail
      refine ⟨trivial, fun h => (by cases h), callsIn_wide.2 ?_⟩
      refine (HTK.out _).mono ?_; rintro e w3 ⟨rfl, hp3⟩
      have hp4 := hp3.alloc (.cells (statV s) 35)
      have HP4 := Lib.hid hp4
      have hi4 : IsR 140 (w3.alloc (.cells (statV s) 35)) a S' va := RsP.is (k := 0) (hp4.ent (Pc.Ent.swap _ _ _)) rfl
      have HI4 := Lib.hid hi4
      have HB4 := Lib.hid (heap_alloc_new w3 (.cells (statV s) 35))
      have hstore := run_store_new (P := Tryz.prog) w3 zeroV (statV s) 35 rfl (statV_one s)
      unfold zeroV at hstore
      clear hp3 hp4 hi4
      gi_wp2_with fail
      refine ⟨trivial, fun h => (by cases h), callsIn_wide.2 ?_⟩
      refine (err_any HI4.out).mono ?_; rintro e w5 ⟨rfl, q5, rfl⟩
      clear hstore
      generalize w3.alloc (.cells (statV s) 35) = w4 at *
      by_cases he : S'.err = 0
      · have HP5 := Lib.hid (HP4.out.still ((Mods.refl [] w4).drewN q5))
        generalize w3.heap.size = b at *
        have hb5 : (w4.drewN q5).heap[b]? = some (.cells (statV s) 35 (0, 0)) := HB4.out
        have he1 : (S'.err != 0) = false := by rw [he]; rfl
        generalize w4.drewN q5 = w5 at *
        have hbs := hst he
        obtain ⟨hx1, hx2, hx3⟩ := drop_head (HREC.out.symm.trans (HNX.out he))
        have HX2 := Lib.hid hx2
        obtain ⟨fn, tmps, assign, body, hy, hR⟩ := HY.out k _ _ w5 hx1 (HP5.out.ent (ent_eachx _ _ _))
        have HRR := Lib.hid hR
        simp only [encE, statV, Int.natCast_add] at hy
        obtain ⟨c0, c1, c2, c3, c4, c5, c6, c7, c8, c9, c10, c11, c12⟩ := stat_cells hb5
        clear hb5 hR hx1 hx2
        gi_wp2_with fail
        refine ⟨fun h => (by cases h), HRR.out.mono ?_⟩
        rintro e W' (⟨rfl, hpp⟩ | ⟨rfl, hpp⟩)
        · have hpe := hpp.ent ((Pc.Ent.swap _ _ _).trans ((Pc.Ent.refl _).mono (Pc.Ent.left _ _)))
          have HR : Hid (RelEachX l a va K w0 W') := Lib.hid ⟨k + 1, S', by rw [hbs.1]; exact hb, by omega, HX2.out.symm, hpe⟩
          have hm1 : plOf a W' = S'.place := plOf_eq (RsP.is (k := 0) hpe rfl)
          have hm2 : plOf a wr = S.place := plOf_eq HI.out
          have hpl := hbs.2.1
          have hsz := hbs.2.2.1
          clear hpp hpe c0 c1 c2 c3 c4 c5 c6 c7 c8 c9 c10 c11 c12
          gi_wp2_with fail
          exact ⟨HR.out, by omega⟩
        · have HQ := Lib.hid (hpp.ent (Pc.Ent.left _ _))
          clear hpp c0 c1 c2 c3 c4 c5 c6 c7 c8 c9 c10 c11 c12
          gi_wp2_with fail
          refine bodyPost_ret (results_none rfl _ _ _) rfl ?_
          exact ⟨⟨_, rfl⟩, Or.inr ⟨k + 1, by omega, HQ.out⟩⟩
      · have he1 : (S'.err != 0) = true := by rw [bne_iff_ne]; exact he
        have hk2 : (recs (RSt.new l)).drop k = [] := by rw [← HREC.out, HER.out he]
        have hk3 : k = (recs (RSt.new l)).length := by
          have := List.drop_eq_nil_iff.1 hk2
          omega
        subst hk3
        gi_wp2_with fail
        refine ⟨fun _ h => (by cases h), ?_⟩
        gi_wp2_with fail
        refine bodyPost_ret (results_none rfl _ _ _) rfl ?_
        exact ⟨⟨_, rfl⟩, Or.inl ((HP4.out.still ((Mods.refl [] w4).drewN q5)).ent ((Pc.Ent.right _ _).trans (Pc.Ent.right _ _)))⟩
end Go.Proofs.YtnpokdbpmnkbjaaGreatDoor
namespace Go.Proofs.YtnpokdbpmnkbjaaGreatDoor.Me
open Go

def noDefer (o : Oper) : Bool := match o.op with
  | .defer _ => false
  | _ => true
theorem noDefer_spec {o : Oper} (h : noDefer o = true) : ∀ c, o.op ≠ .defer c := by
  intro c hc
  unfold noDefer at h
  rw [hc] at h
  cases h
section
variable {F : Fence} {n : Nat} {P : Program} {ops : Array Oper} {C : World → Prop} {md : Region.Mode}
theorem Oper.wpIn_of_quietR {o : Oper} {a : Act} {K : Act → Prop} {K' : Act → World → Prop} {Q' : Exit → Act → World → Prop} {w : World} (hno : noDefer o = true) (hw : C w) (h : ∀ a w', C w' → K a → K' a w')
    (ha : o.askedIn F P a C) (hh : o.quietIn F n P a C K) : o.wpIn F n P a w K' Q' := by
  obtain ⟨v, h1, h2⟩ := hh
  have h3 := h1 w hw
  unfold Oper.quietAtIn at h3
  unfold Oper.wpIn
  refine ⟨ha w hw, ?_⟩
  rw [Oper.semAt_plain F _ _ (noDefer_spec hno)]
  generalize (execOp a.eval o).run P w = r at *
  cases r with
  | ok x w' =>
    cases x <;> simp only [Oper.quietUponIn] at h3 <;> simp only [Oper.uponIn]
    case value u =>
      obtain ⟨e1, e2⟩ := h3
      rw [e1, e2]
      exact h _ _ hw h2
    case skip =>
      obtain ⟨e1, e2⟩ := h3
      rw [e1, ← e2]
      exact h _ _ hw h2
    case enter f args =>
      obtain ⟨e1, hd, hc⟩ := h3
      rw [e1]
      exact ⟨hd, hc.mono fun e w'' ⟨he, hw''⟩ => by subst he; exact h _ _ hw'' h2⟩
  | halt x w' => simp only [Oper.quietUponIn] at h3
theorem wpOpIn_of_qOpInR {i : Nat} {a : Act} {K : Act → Prop} {K' : Act → World → Prop} {Q' : Exit → Act → World → Prop} {w : World} (hno : ops.all noDefer = true) (hC : C w) (h : ∀ a w', C w' → K a → K' a w')
    (hh : qOpIn F n P ops C i K a) : wpOpIn F n P ops Q' i K' a w := by
  unfold qOpIn at hh
  unfold wpOpIn
  split
  · rename_i ho; simp only [ho] at hh; exact h _ _ hC hh
  · rename_i o ho
    simp only [ho] at hh
    obtain ⟨ha, hh⟩ := hh
    have hn1 : noDefer o = true := Array.all_eq_true_iff_forall_mem.1 hno o (Array.mem_of_getElem? ho)
    split
    · rename_i hw; simp only [hw, if_true] at hh; exact Oper.wpIn_of_quietR hn1 hC h ha hh
    · rename_i hw; simp only [hw] at hh; exact ⟨ha w hC, h _ _ hC hh⟩
theorem wpAnyIn_of_quietR {Q : Act → Prop} {Q' : Exit → Act → World → Prop} (hno : ops.all noDefer = true) (hQ : ∀ a w, C w → Q a → Q' .normal a w) : ∀ (fuel : Nat) (listed : Array Bool) (a : Act) (w : World), C w →
    wpAnyQIn F n P md ops C Q fuel listed a → wpAnyIn F n P md ops Q' fuel listed a w
  | 0, _, _, _, hw, h => ⟨h.1, hQ _ _ hw h.2⟩
  | fuel + 1, _, _, _, hw, h => ⟨fun h0 => hQ _ _ hw (h.1 h0), fun i hi => wpOpIn_of_qOpInR hno hw (fun a' w' hw' => wpAnyIn_of_quietR hno hQ fuel _ a' w' hw') (h.2 i hi)⟩
theorem wpIn_region_quietR {id : Nat} {Q : Exit → Act → World → Prop} {a : Act} {w : World} (hno : ops.all noDefer = true) (hm : P.follows .mixedOrders = true) (hB : Region.lexB .any ops = true) (hC : C { w with drawn := w.drawn + 1 })
    (h : wpQuietIn F n P ops C (fun a' => ∀ w', C w' → Q .normal a' w') ops.toList a) : (Code.region id ops true).wpIn F n P Q a w := by
  simp only [Region.lexB, Bool.and_eq_true] at hB
  refine wpIn_region_any hm (wpAnyIn_of_quietR (Q := fun a' => ∀ w', C w' → Q .normal a' w') hno (fun _ w' hw' h => h w' hw') _ _ _ _ hC ?_)
  have := wpAnyQIn_lex (F := F) (n := n) (C := C) (md := .any) hB.1 ops.toList 0 (Array.replicate ops.size false) a (by simp) (by simpa using hB.2) h
  simpa using this
theorem wpIn_region_quiet_litR {id : Nat} {Q : Exit → Act → World → Prop} {a : Act} {w : World} {l : List Oper} (hno : l.toArray.all noDefer = true) (hm : P.follows .mixedOrders = true) (hB : Region.lexB .any l.toArray = true)
    (h : wpQuietIn F n P l.toArray (fun w' => ∃ n, w' = w.drewN n) (fun a' => ∀ w', (∃ n, w' = w.drewN n) → Q .normal a' w') l a) : (Code.region id l.toArray true).wpIn F n P Q a w :=
  wpIn_region_quietR (C := fun w' => ∃ n, w' = w.drewN n) hno hm hB ⟨1, rfl⟩ (by simpa using h)
end
end Go.Proofs.YtnpokdbpmnkbjaaGreatDoor.Me
