/- What a machine has drawn is never less behind a step than ahead of it; so behind a call. Over any program. | slices.SortFunc of this program, laid by the shelf: no walk. | How dump.diff compares two changes; the worlds that a sort passes through. | slices.SortFunc upon a row of changes that the caller owns. -/
import Derived.Fence
import Derived.StepT
import Derived.Calls
import Derived.Shelf.SlLaysF0
import Derived.Test.YtmcekhgmmocajaaGreatDoorProg
import Derived.Shelf.SlSortCmp.InsertionK
import Derived.Test.YtmcekhgmmocajaaGreatDoorPo
import Derived.Shelf.SlSortCmp.NoneTotal
namespace Go.Proofs.YtmcekhgmmocajaaGreatDoor.Dr
open Go

theorem ask_drawn {α : Type} (a : Ask α) : ∀ w : World, w.drawn ≤ (w.ask a).2.drawn := by
  induction a with
  | done a => intro w; exact Nat.le_refl _
  | ask what range k ih =>
    intro w
    unfold World.ask
    simp only
    split
    · exact ih _ w
    · exact Nat.le_trans (Nat.le_succ _) (ih _ { w with drawn := w.drawn + 1 })
theorem sys_drawn (w : World) (c : Sys) : w.drawn ≤ (w.sys c).2.drawn := by
  have h := ask_drawn (Kernel.perform c w.os) w
  unfold World.sys
  split
  · exact Nat.le_refl _
  · rename_i h1
    rw [h1] at h
    exact h
theorem viewStore_drawn {p : Program} {w w' : World} {a : Addr} {u : TypeId} {k : Addr} {v : Value} {at_ : Bool} {l : List Addr} (h : w.viewStore p a u k v at_ = .ok (w', l)) : w'.drawn = w.drawn := by
  unfold World.viewStore at h
  simp only [bind, Except.bind, pure, Except.pure] at h
  repeat' split at h
  all_goals first | contradiction | (cases h; rfl) | skip
theorem farStore_drawn {p : Program} {w w' : World} {a : Addr} {v : Value} {at_ : Bool} {l : List Addr} (h : w.farStore p a v at_ = .ok (w', l)) : w'.drawn = w.drawn := by
  unfold World.farStore at h
  split at h
  · split at h
    · rename_i h1
      cases h
      exact viewStore_drawn h1
    · cases h
  · cases h
def Up {α : Type} (d : Nat) : Result α → Prop
  | .ok _ w => d ≤ w.drawn
  | .halt _ w => d ≤ w.drawn
theorem Up.mono {α : Type} {d e : Nat} (h : d ≤ e) : ∀ {r : Result α}, Up e r → Up d r
  | .ok _ _, k => Nat.le_trans h k
  | .halt _ _, k => Nat.le_trans h k
theorem setCell_drawn (w : World) (a : Addr) (v : Value) : (w.setCell a v).drawn = w.drawn := rfl
theorem freeze_drawn (w : World) (a : Addr) (n : Nat) : (w.freeze a n).drawn = w.drawn := by
  unfold World.freeze
  split <;> rfl
theorem run_up {α : Type} (p : Program) (s : Sem α) : ∀ w : World, Up w.drawn (s.run p w) := by
  induction s with
  | pure a => intro w; exact Nat.le_refl _
  | load m a k ih =>
    intro w
    simp only [Sem.run]
    split
    · exact ih _ w
    · split
      · exact ih _ w
      · exact Nat.le_refl _
  | store m a v k ih =>
    intro w
    cases v <;> simp only [Sem.run] <;> first | exact Nat.le_refl _ | skip
    all_goals
      split
      · split
        · exact Nat.le_refl _
        · exact ih (w.setCell a _)
      · split
        · rename_i h
          have := ih ‹World›
          rw [farStore_drawn h] at this
          exact this
        · exact Nat.le_refl _
  | new o k ih => intro w; simp only [Sem.run]; exact ih _ _
  | shape r k ih => intro w; simp only [Sem.run]; exact ih _ _
  | freeze a n k ih => intro w; simp only [Sem.run]; have := ih (w.freeze a n); rw [freeze_drawn] at this; exact this
  | frozen a k ih => intro w; simp only [Sem.run]; exact ih _ _
  | getObj r k ih =>
    intro w
    simp only [Sem.run]
    split
    · exact Nat.le_refl _
    · exact ih _ _
    · exact Nat.le_refl _
  | setObj r o k ih =>
    intro w
    simp only [Sem.run]
    split
    · exact Nat.le_refl _
    · exact ih { w with heap := w.heap.setIfInBounds r o }
    · exact Nat.le_refl _
  | choose q k ih =>
    intro w
    simp only [Sem.run]
    split
    · exact ih _ _
    · exact (ih _ { w with drawn := w.drawn + 1 }).mono (Nat.le_succ _)
  | sys c k ih => intro w; simp only [Sem.run]; exact (ih _ _).mono (sys_drawn w c)
  | program k ih => intro w; simp only [Sem.run]; exact ih _ _
  | mark m k ih => intro w; simp only [Sem.run]; exact ih _
  | halt h => intro w; exact Nat.le_refl _
theorem run_ok {α : Type} {p : Program} {s : Sem α} {w w' : World} {v : α} (h : s.run p w = .ok v w') : w.drawn ≤ w'.drawn := by
  have := run_up p s w
  rw [h] at this
  exact this
theorem run_halt {α : Type} {p : Program} {s : Sem α} {w w' : World} {v : Halt} (h : s.run p w = .halt v w') : w.drawn ≤ w'.drawn := by
  have := run_up p s w
  rw [h] at this
  exact this
/-- The world of what one goroutine's step ends in, if the machine goes on. -/
def GUp (d : Nat) : GStep → Prop
  | .go _ w _ => d ≤ w.drawn
  | .comm _ _ _ _ w _ => d ≤ w.drawn
  | .spawn _ _ w _ => d ≤ w.drawn
  | .count _ w _ => d ≤ w.drawn
  | .timer _ _ w _ => d ≤ w.drawn
  | .alone _ _ w _ => d ≤ w.drawn
  | .newcoro _ _ _ w _ => d ≤ w.drawn
  | .coroswitch _ _ _ w _ => d ≤ w.drawn
  | .collect _ w _ => d ≤ w.drawn
  | .watch _ w _ => d ≤ w.drawn
  | .ended _ _ _ => True
theorem GUp.after {d : Nat} (es : Array Event) : ∀ {s : GStep}, GUp d s → GUp d (s.after es) := by
  intro s h
  cases s <;> exact h
theorem GUp.mono {d e : Nat} (h : d ≤ e) : ∀ {s : GStep}, GUp e s → GUp d s := by
  intro s k
  cases s <;> first | exact trivial | exact Nat.le_trans h k
theorem gup_ite {c : Prop} [Decidable c] {d : Nat} {a b : GStep} (ha : GUp d a) (hb : GUp d b) : GUp d (if c then a else b) := by
  split
  · exact ha
  · exact hb
theorem dieOf_up (fr : Frame) (l : List ByteArray) (m : String) (b : Bool) (w : World) : GUp w.drawn (dieOf fr l m b w) := Nat.le_refl _
theorem endThrow_up (fr : Frame) (m : String) (w : World) : GUp w.drawn (endThrow fr m w) := Nat.le_refl _
theorem endPrinting_up (p : Program) (fr : Frame) (v : Value) (w : World) : GUp w.drawn (endPrinting p fr v w) := by
  unfold endPrinting
  simp only
  split
  · exact endThrow_up _ _ _
  · exact trivial
theorem endWith_up (w : World) (fd : Nat) (t : ByteArray) (o : Outcome) (d : Nat) : GUp d (endWith w fd t o) := by
  unfold endWith
  simp only
  split
  · split <;> exact trivial
  · exact trivial
  · exact trivial
theorem endFatal_up (p : Program) (fr : Frame) (cs : List Frame) (dy : Option Dying) (m : String) (w : World) : GUp w.drawn (endFatal p fr cs dy m w) := by
  unfold endFatal
  simp only
  split
  · rename_i h
    exact (dieOf_up _ _ _ _ _).mono (run_ok h)
  · exact trivial
  · exact trivial
theorem writeOn_up (p : Program) (fr : Frame) (d : Dying) (f : Fatal) (w : World) : GUp w.drawn (writeOn p fr d f w) := by
  unfold writeOn
  simp only
  split
  · exact trivial
  · simp only [Sem.runT_eq]
    split
    · rename_i h
      exact run_ok (Prod.mk.inj h).1
    · rename_i h
      exact run_halt (Prod.mk.inj h).1
    · exact trivial
    · exact trivial
theorem die_up (p : Program) (fr : Frame) (d : Dying) (w : World) : GUp w.drawn (die p fr d w) := by
  unfold die
  split
  · exact writeOn_up _ _ _ _ _
  · split
    · split
      · exact Nat.le_refl _
      · exact endWith_up _ _ _ _ _
    · simp only
      split
      · exact Nat.le_refl _
      · split
        · rename_i h
          exact run_ok h
        · exact trivial
      · simp only [Sem.runT_eq]
        refine GUp.after _ ?_
        split
        · rename_i h
          exact run_ok h
        · rename_i h
          exact run_ok h
        · exact trivial
        · rename_i h
          exact (endPrinting_up _ _ _ _).mono (run_halt h)
        · exact trivial
      · exact trivial
theorem doReturn_up (p : Program) (main : Bool) (fr : Frame) (cs : List Frame) (dy : Option Dying) (v : Value) (w : World) : GUp w.drawn (doReturn p main fr cs dy v w) := by
  unfold doReturn
  simp only
  repeat' split
  all_goals first | exact Nat.le_refl _ | exact trivial
theorem callDeferred_up (p : Program) (fr : Frame) (cs : List Frame) (dy : Option Dying) (d : Deferred) (w : World) : GUp w.drawn (callDeferred p fr cs dy d w) := by
  unfold callDeferred
  simp only [Sem.runT_eq]
  refine gup_ite trivial (GUp.after _ ?_)
  repeat' split
  all_goals first | exact trivial | exact run_ok ‹Sem.run _ _ _ = Result.ok _ _› | exact run_halt ‹Sem.run _ _ _ = Result.halt _ _› | exact (endFatal_up _ _ _ _ _ _).mono (run_halt ‹Sem.run _ _ _ = Result.halt _ _›) | exact (endThrow_up _ _ _).mono (run_halt ‹Sem.run _ _ _ = Result.halt _ _›) | skip
theorem unwind_up (p : Program) (main : Bool) (fr : Frame) (cs : List Frame) (dy : Option Dying) (w : World) : GUp w.drawn (unwind p main fr cs dy w) := by
  unfold unwind
  simp only [Sem.runT_eq]
  split
  · refine GUp.after _ ?_
    split
    · rename_i h
      exact run_ok h
    · exact trivial
  · exact callDeferred_up _ _ _ _ _ _
  · split
    · exact trivial
    · split
      · exact trivial
      · split
        · exact Nat.le_refl _
        · split
          · split
            · exact Nat.le_refl _
            · split
              · rename_i h
                exact run_ok h
              · exact trivial
              · exact trivial
          · split
            · exact endPrinting_up _ _ _ _
            · exact trivial
    · split
      · exact doReturn_up _ _ _ _ _ _ _
      · refine GUp.after _ ?_
        split
        · rename_i h
          exact (doReturn_up _ _ _ _ _ _ _).mono (run_ok h)
        · exact trivial
        · exact trivial
theorem early_up (p : Program) (fr : Frame) (cs : List Frame) (dy : Option Dying) (g : Nat) (w : World) : GUp w.drawn (early p fr cs dy g w) := by
  unfold early
  simp only
  repeat' split
  all_goals first | exact trivial | exact Nat.le_refl _ | (simp only [GUp]; exact run_ok ‹Sem.run _ _ _ = Result.ok _ _›) | skip
theorem apply_up (p : Program) (listen : Bool) (fr : Frame) (cs : List Frame) (dy : Option Dying) (e : Sem Next) (w : World) : GUp w.drawn (stepG.apply p listen fr cs dy e w) := by
  unfold stepG.apply
  have h : ∃ es, (if listen = true then e.runT p w #[] else (e.run p w, #[])) = (e.run p w, es) := by
    cases listen
    · exact ⟨_, rfl⟩
    · exact ⟨e.events p w #[], by simp [Sem.runT_eq]⟩
  obtain ⟨es, h⟩ := h
  simp only [h]
  refine GUp.after _ ?_
  repeat' split
  all_goals first | exact trivial | exact run_ok ‹Sem.run _ _ _ = Result.ok _ _› | exact run_halt ‹Sem.run _ _ _ = Result.halt _ _› | exact (endFatal_up _ _ _ _ _ _).mono (run_halt ‹Sem.run _ _ _ = Result.halt _ _›) | exact (endThrow_up _ _ _).mono (run_halt ‹Sem.run _ _ _ = Result.halt _ _›) | exact (endThrow_up _ _ _).mono (run_ok ‹Sem.run _ _ _ = Result.ok _ _›) | exact (early_up _ _ _ _ _ _).mono (run_halt ‹Sem.run _ _ _ = Result.halt _ _›) | skip
theorem oper_up (p : Program) (listen : Bool) (fr : Frame) (cs : List Frame) (dy : Option Dying) (w : World) : GUp w.drawn (stepG.oper p listen fr cs dy w) := by
  unfold stepG.oper
  repeat' split
  all_goals first | exact trivial | exact apply_up _ _ _ _ _ _ _ | skip
theorem gup_elim {α : Type} {d : Nat} {o : Option α} {a : GStep} {f : α → GStep} (ha : GUp d a) (hf : ∀ k, GUp d (f k)) : GUp d (o.elim a f) := by
  cases o
  · exact ha
  · exact hf _
theorem exec_up (p : Program) (main listen : Bool) (fr : Frame) (cs : List Frame) (dy : Option Dying) (w : World) : GUp w.drawn (stepG.exec p main listen fr cs dy w) := by
  unfold stepG.exec
  simp only
  split
  all_goals first | exact trivial | exact Nat.le_refl _ | exact apply_up _ _ _ _ _ _ _ | skip
  all_goals (try simp only [Sem.runT_eq])
  all_goals (try refine GUp.after _ ?_)
  all_goals (repeat' split)
  all_goals first | exact trivial | exact Nat.le_refl _ | exact oper_up _ _ _ _ _ _ | exact run_ok ‹Sem.run _ _ _ = Result.ok _ _› | exact run_halt ‹Sem.run _ _ _ = Result.halt _ _› | exact (apply_up _ _ _ _ _ _ _).mono (run_ok ‹Sem.run _ _ _ = Result.ok _ _›) | exact GUp.after _ ((doReturn_up _ _ _ _ _ _ _).mono (run_ok ‹Sem.run _ _ _ = Result.ok _ _›)) | exact (doReturn_up _ _ _ _ _ _ _).mono (run_ok ‹Sem.run _ _ _ = Result.ok _ _›) | exact gup_elim trivial (fun _ => Nat.le_refl _) | exact gup_elim trivial (fun _ => apply_up _ _ _ _ _ _ _) | exact gup_elim (Nat.le_refl _) (fun _ => Nat.le_refl _) | exact gup_elim (GUp.after _ ((doReturn_up _ _ _ _ _ _ _).mono (run_ok ‹Sem.run _ _ _ = Result.ok _ _›))) (fun _ => Nat.le_refl _) | exact gup_elim (GUp.after _ trivial) (fun _ => Nat.le_refl _) | exact GUp.after _ trivial | skip
theorem stepG_up (p : Program) (main : Bool) (g : Goroutine) (w : World) (listen : Bool) : GUp w.drawn (stepG p main g w listen) := by
  unfold stepG
  simp only
  split
  · exact die_up _ _ _ _
  · exact exec_up _ _ _ _ _ _ _
  · exact unwind_up _ _ _ _ _ _
/-- The machine's world, if it goes on. -/
def SUp (d : Nat) : Stepped → Prop
  | .next m => d ≤ m.world.drawn
  | .ended _ _ => True
theorem SUp.mono {d e : Nat} (h : d ≤ e) : ∀ {s : Stepped}, SUp e s → SUp d s := by
  intro s k
  cases s
  · exact Nat.le_trans h k
  · exact trivial
theorem waitingAt_drawn {rest : Rest} {cases : Array CommCase} {w w' : World} (h : waitingAt rest cases w = some w') : w'.drawn = w.drawn := by
  unfold waitingAt at h
  split at h
  · split at h
    · cases h; rfl
    · cases h
  · cases h; rfl
theorem look_up (p : Program) (gs : Array Goroutine) (rest : Rest) (w : World) : SUp w.drawn (look p gs rest w) := by
  unfold look
  simp only
  split
  · split
    · exact trivial
    · split
      · exact trivial
      · split
        · simp only [SUp]
          exact run_ok ‹Sem.run _ _ _ = Result.ok _ _›
        · exact trivial
        · exact trivial
  · exact trivial
theorem communicate_up (p : Program) (rest : Rest) (gs : Array Goroutine) (i : Nat) (g : Goroutine) (cases : Array CommCase) (blocking : Bool) (shape : CommShape) (w : World) : SUp w.drawn (communicate p rest gs i g cases blocking shape w).1 := by
  unfold communicate
  simp only
  split
  · exact trivial
  split
  · split
    · split
      · have e := waitingAt_drawn ‹waitingAt rest cases w = some _›
        exact Nat.le_of_eq e.symm
      · exact trivial
    · exact Nat.le_refl _
  · split
    · exact trivial
    · rename_i h
      have h := run_ok h
      repeat' split
      all_goals first | exact trivial | exact Nat.le_trans ‹w.drawn ≤ _› (run_halt ‹Sem.run _ _ _ = Result.halt _ _›) | (simp only [SUp]; exact Nat.le_trans ‹w.drawn ≤ _› (run_ok ‹Sem.run _ _ _ = Result.ok _ _›)) | exact ‹w.drawn ≤ _› | (simp only [SUp]; exact ‹w.drawn ≤ _›) | skip
theorem drain_drawn (w : World) (c : Nat) : (drain w c).2.drawn = w.drawn := by
  unfold drain
  split <;> rfl
theorem retime_drawn (m : Machine) (k : Nat) (t : Timer) (a b : Nat) : (retime m k t a b).2.world.drawn = m.world.drawn := by
  unfold retime
  simp only
  split
  · exact drain_drawn _ _
  · rfl
theorem opened_drawn {m m' : Machine} {var : Addr} (h : timerOp.opened m var = some m') : m'.world.drawn = m.world.drawn := by
  unfold timerOp.opened at h
  split at h
  · split at h
    · cases h; rfl
    · cases h
  · cases h; rfl
theorem named_drawn {m0 : Machine} {var : Addr} {f : Nat → Timer → Value × Machine} {m' : Machine} {v : Value} {d : Nat} (hf : ∀ k t, (f k t).2.world.drawn = d) (h : timerOp.named m0 var f = .ok (v, m')) : m'.world.drawn = d := by
  unfold timerOp.named at h
  split at h
  · rename_i k _
    have e := Except.ok.inj h
    have := hf k (m0.rest.timers.getD k default)
    rw [e] at this
    exact this
  · cases h
theorem timerOp_up {m m' : Machine} {op : TimerOp} {v : Value} (h : timerOp m op = .ok (v, m')) : m.world.drawn ≤ m'.world.drawn := by
  unfold timerOp at h
  split at h
  · split at h
    · cases h; exact Nat.le_refl _
    · split at h
      · split at h
        · cases h
        · cases h; exact Nat.le_refl _
      · cases h
  · exact Nat.le_of_eq (named_drawn (fun k t => retime_drawn _ _ _ _ _) h).symm
  · split at h
    · rename_i h1
      have := named_drawn (fun k t => retime_drawn _ _ _ _ _) h
      rw [this, opened_drawn h1]
      exact Nat.le_refl _
    · cases h
  · cases h; exact Nat.le_refl _
theorem serve_up (p : Program) (m : Machine) (k : Nat) : SUp m.world.drawn (serve p m k) := by
  unfold serve
  split
  · exact trivial
  · exact Nat.le_refl _
  · simp only
    split
    · exact trivial
    · exact Nat.le_refl _
theorem runT_up (p : Program) (m : Machine) (i : Nat) (listen : Bool) : SUp m.world.drawn (runT p m i listen).1 := by
  unfold runT
  simp only
  generalize (m.gs.swapAt! i { (default : Goroutine) with status := .finished }) = gg
  have h := stepG_up p (i == 0) gg.1 m.world listen
  generalize stepG p (i == 0) gg.1 m.world listen = s at *
  cases s with
  | ended o w es => exact trivial
  | comm g cases blocking shape w es => exact (communicate_up _ _ _ _ _ _ _ _ _).mono h
  | go g w es => exact h
  | spawn g child w es => exact h
  | count g w es =>
    simp only
    split
    · exact trivial
    · exact h
  | alone g on w es => exact h
  | collect g w es => exact (look_up _ _ _ _).mono h
  | watch g w es => exact h
  | newcoro g c d w es => exact h
  | coroswitch g c exit w es =>
    simp only
    split
    · exact h
    · split
      · have h2 := endThrow_up g.frame "coroswitch on exited coro" w
        rename_i e
        rw [e] at h2
        exact Nat.le_trans h h2
      · exact trivial
    · exact trivial
  | timer g op w es =>
    simp only
    split
    · rename_i e
      exact Nat.le_trans h (timerOp_up e)
    · split
      · have h2 := endThrow_up g.frame ‹String› w
        rename_i e
        rw [e] at h2
        exact Nat.le_trans h h2
      · exact trivial
    · exact trivial
    · exact trivial
def MUp (d : Nat) : Move → Prop
  | .goroutine m _ => d ≤ m.world.drawn
  | .machine s _ => SUp d s
theorem MUp.mono {d e : Nat} (h : d ≤ e) : ∀ {s : Move}, MUp e s → MUp d s := by
  intro s k
  cases s
  · exact Nat.le_trans h k
  · exact SUp.mono h k
theorem askOn_up (p : Program) (m : Machine) : MUp m.world.drawn (askOn p m) := by
  unfold askOn
  simp only
  split
  · exact trivial
  · rename_i h
    have h := run_ok h
    split
    · exact SUp.mono ‹m.world.drawn ≤ _› (serve_up p { m with world := ‹World› } _)
    · split
      · split
        · exact ‹m.world.drawn ≤ _›
        · split
          · exact ‹m.world.drawn ≤ _›
          · split
            · exact trivial
            · exact trivial
      · split
        · split
          · exact trivial
          · have h2 := run_ok ‹Sem.run _ _ _ = Result.ok _ _›
            have h3 := Nat.le_trans ‹m.world.drawn ≤ _› h2
            split
            · exact h3
            · split
              · exact trivial
              · have h4 := run_ok ‹Sem.run _ _ _ = Result.ok _ _›
                exact Nat.le_trans ‹m.world.drawn ≤ _› h4
        · split
          · exact trivial
          · have h2 := run_ok ‹Sem.run _ _ _ = Result.ok _ _›
            have h3 := Nat.le_trans ‹m.world.drawn ≤ _› h2
            split
            · exact trivial
            · have h4 := run_ok ‹Sem.run _ _ _ = Result.ok _ _›
              have h5 := Nat.le_trans ‹m.world.drawn ≤ _› h4
              split
              · exact h5
              · split
                · exact trivial
                · have h6 := run_ok ‹Sem.run _ _ _ = Result.ok _ _›
                  exact Nat.le_trans ‹m.world.drawn ≤ _› h6
          · have h2 := run_ok ‹Sem.run _ _ _ = Result.ok _ _›
            exact Nat.le_trans ‹m.world.drawn ≤ _› h2
          · have h2 := run_ok ‹Sem.run _ _ _ = Result.ok _ _›
            have h3 := Nat.le_trans ‹m.world.drawn ≤ _› h2
            split
            · exact trivial
            · have h4 := run_ok ‹Sem.run _ _ _ = Result.ok _ _›
              have h5 := Nat.le_trans h3 h4
              split
              · exact h5
              · split
                · exact trivial
                · have h6 := run_ok ‹Sem.run _ _ _ = Result.ok _ _›
                  exact Nat.le_trans ‹m.world.drawn ≤ _› h6
theorem ask_up (p : Program) (m : Machine) : MUp m.world.drawn (ask p m) := by
  unfold ask
  split
  · split
    · exact trivial
    · have hl := look_up p m.gs m.rest ‹World›
      split
      · rename_i e
        rw [e] at hl
        exact (askOn_up _ _).mono (Nat.le_trans (run_ok ‹Sem.run _ _ _ = Result.ok _ _›) hl)
      · exact SUp.mono (run_ok ‹Sem.run _ _ _ = Result.ok _ _›) hl
    · exact (askOn_up p { m with world := ‹World› }).mono (run_ok ‹Sem.run _ _ _ = Result.ok _ _›)
  · exact askOn_up _ _
theorem move_up (p : Program) (m : Machine) : MUp m.world.drawn (move p m) := by
  unfold move
  split
  · split
    · exact Nat.le_refl _
    · exact trivial
  · split
    · split
      · exact Nat.le_refl _
      · exact ask_up p { m with rest := { m.rest with slice := none } }
    · exact ask_up _ _
theorem step_up {p : Program} {m m' : Machine} (h : step p m = .next m') : m.world.drawn ≤ m'.world.drawn := by
  have hm := move_up p m
  unfold step stepT at h
  split at h
  · rename_i e
    rw [e] at hm
    have := runT_up p ‹Machine› ‹Nat› true
    rw [h] at this
    exact Nat.le_trans hm this
  · rename_i e
    rw [e] at hm
    simp only at h
    subst h
    exact hm
theorem steps_up {p : Program} {m m' : Machine} (h : Steps p m m') : m.world.drawn ≤ m'.world.drawn := by
  replace h := StepsIn.of_steps h
  induction h with
  | refl => exact Nat.le_refl _
  | head _ hs _ ih => exact Nat.le_trans (step_up hs) ih
/-- What has been drawn is never less behind a call. -/
theorem calls_up {P : Program} {f : FuncId} {args : Array Value} {w : World} {R : Ending → World → Prop} (h : Calls P f args w R) : Calls P f args w fun e w' => R e w' ∧ (w.drawn ≤ w'.drawn ∨ e = .outgrown) := by
  intro cs
  obtain ⟨e, w', fr, hr, hc, h1, h2⟩ := h cs
  refine ⟨e, w', fr, ⟨hr, ?_⟩, hc, h1, h2⟩
  cases e with
  | returned v => exact Or.inl (steps_up hc)
  | panicked c => exact Or.inl (steps_up hc)
  | outgrown => exact Or.inr rfl
end Go.Proofs.YtmcekhgmmocajaaGreatDoor.Dr
namespace Go.Proofs.YtmcekhgmmocajaaGreatDoor
open Go.Shelf
def Tryz.sortChg_ren : Go.Shelf.Ren := ⟨fun | 6 => 81 | 15 => 109 | 14 => 108 | 28 => 127 | 29 => 128 | 20 => 119 | 21 => 120 | 22 => 121 | 23 => 122 | 24 => 123 | 25 => 124 | 26 => 125 | 27 => 126 | 46 => 138 | 47 => 139 | 48 => 140 | 49 => 141 | 50 => 142 | 57 => 146 | n => n, fun | 22 => 49 | 24 => 54 | 25 => 114 | 3 => 3 | 39 => 91 | 0 => 0 | 53 => 45 | 55 => 68 | 4 => 4 | 46 => 150 | 45 => 149 | 50 => 131 | 5 => 5 | 9 => 9 | 66 => 161 | 70 => 165 | 76 => 172 | 77 => 173 | n => n, fun | n => n⟩
theorem Tryz.sortChg : SlLaysF0.n6 Tryz.prog Tryz.sortChg_ren := {
  mixed := by kernel_rfl
  f6 := ⟨Tryz.f81.name, by decide, Tryz.func81.trans (congrArg some (by kernel_rfl))⟩
  f14 := ⟨Tryz.f108.name, by decide, Tryz.func108.trans (congrArg some (by kernel_rfl))⟩
  f15 := Tryz.func109.trans (congrArg some (by kernel_rfl))
  f20 := ⟨Tryz.f119.name, by decide, Tryz.func119.trans (congrArg some (by kernel_rfl))⟩
  f21 := ⟨Tryz.f120.name, by decide, Tryz.func120.trans (congrArg some (by kernel_rfl))⟩
  f22 := ⟨Tryz.f121.name, by decide, Tryz.func121.trans (congrArg some (by kernel_rfl))⟩
  f23 := ⟨Tryz.f122.name, by decide, Tryz.func122.trans (congrArg some (by kernel_rfl))⟩
  f24 := ⟨Tryz.f123.name, by decide, Tryz.func123.trans (congrArg some (by kernel_rfl))⟩
  f25 := ⟨Tryz.f124.name, by decide, Tryz.func124.trans (congrArg some (by kernel_rfl))⟩
  f26 := ⟨Tryz.f125.name, by decide, Tryz.func125.trans (congrArg some (by kernel_rfl))⟩
  f27 := ⟨Tryz.f126.name, by decide, Tryz.func126.trans (congrArg some (by kernel_rfl))⟩
  f28 := Tryz.func127.trans (congrArg some (by kernel_rfl))
  f29 := Tryz.func128.trans (congrArg some (by kernel_rfl))
  f46 := ⟨Tryz.f138.name, by decide, Tryz.func138.trans (congrArg some (by kernel_rfl))⟩
  f47 := Tryz.func139.trans (congrArg some (by kernel_rfl))
  f48 := Tryz.func140.trans (congrArg some (by kernel_rfl))
  f49 := ⟨Tryz.f141.name, by decide, Tryz.func141.trans (congrArg some (by kernel_rfl))⟩
  f50 := ⟨Tryz.f142.name, by decide, Tryz.func142.trans (congrArg some (by kernel_rfl))⟩
  f57 := ⟨Tryz.f146.name, by decide, Tryz.func146.trans (congrArg some (by kernel_rfl))⟩
  t0 := Tryz.underlying0
  a0 := Tryz.isAgg0
  z0 := Tryz.sizeOf0
  v0 := Tryz.zeroValue0
  t3 := Tryz.underlying3
  a3 := Tryz.isAgg3
  z3 := Tryz.sizeOf3
  v3 := Tryz.zeroValue3
  t4 := Tryz.underlying4
  a4 := Tryz.isAgg4
  z4 := Tryz.sizeOf4
  v4 := Tryz.zeroValue4
  t5 := Tryz.underlying5
  a5 := Tryz.isAgg5
  z5 := Tryz.sizeOf5
  v5 := Tryz.zeroValue5
  t9 := Tryz.underlying9
  a9 := Tryz.isAgg9
  z9 := Tryz.sizeOf9
  v9 := Tryz.zeroValue9
  t22 := Tryz.underlying49
  a22 := Tryz.isAgg49
  z22 := Tryz.sizeOf49
  v22 := Tryz.zeroValue49
  t25 := Tryz.underlying114
  a25 := Tryz.isAgg114
  z25 := Tryz.sizeOf114
  v25 := Tryz.zeroValue114
  t39 := Tryz.underlying91
  a39 := Tryz.isAgg91
  z39 := Tryz.sizeOf91
  v39 := Tryz.zeroValue91
  t45 := Tryz.underlying149
  a45 := Tryz.isAgg149
  z45 := Tryz.sizeOf149
  v45 := Tryz.zeroValue149
  t46 := Tryz.underlying150
  a46 := Tryz.isAgg150
  z46 := Tryz.sizeOf150
  v46 := Tryz.zeroValue150
  t50 := Tryz.underlying131
  a50 := Tryz.isAgg131
  z50 := Tryz.sizeOf131
  v50 := Tryz.zeroValue131
  t53 := Tryz.underlying45
  a53 := Tryz.isAgg45
  z53 := Tryz.sizeOf45
  v53 := Tryz.zeroValue45
  t55 := Tryz.underlying68
  a55 := Tryz.isAgg68
  z55 := Tryz.sizeOf68
  v55 := Tryz.zeroValue68
  t66 := Tryz.underlying161
  a66 := Tryz.isAgg161
  z66 := Tryz.sizeOf161
  v66 := Tryz.zeroValue161
  t70 := Tryz.underlying165
  a70 := Tryz.isAgg165
  z70 := Tryz.sizeOf165
  v70 := Tryz.zeroValue165
  t76 := Tryz.underlying172
  a76 := Tryz.isAgg172
  z76 := Tryz.sizeOf172
  v76 := Tryz.zeroValue172
  t77 := Tryz.underlying173
  a77 := Tryz.isAgg173
  z77 := Tryz.sizeOf173
  v77 := Tryz.zeroValue173 }
end Go.Proofs.YtmcekhgmmocajaaGreatDoor
namespace Go.Proofs.YtmcekhgmmocajaaGreatDoor
open Go.RowKit Me

theorem grow_of_mods {w w' : World} (h : Mods [] w w') (hd : w.drawn ≤ w'.drawn) : ∃ q os', w' = Sort.grow (w.drewN q) os' := by
  refine ⟨w'.drawn - w.drawn, w'.heap.extract w.heap.size w'.heap.size, ?_⟩
  have hh : w'.heap = w.heap ++ w'.heap.extract w.heap.size w'.heap.size := by
    apply Array.ext_getElem?
    intro i
    rw [Array.getElem?_append]
    split
    · exact h.block i ‹_› (by simp)
    · rw [Array.getElem?_extract]
      have := h.size
      by_cases hi : i < w'.heap.size
      · rw [if_pos (by omega)]
        congr 1
        omega
      · rw [if_neg (by omega)]
        exact Array.getElem?_eq_none (by omega)
  have h1 := h.os
  have h2 := h.tape
  have h3 := h.output
  cases w with
  | mk heap tape drawn os output =>
    cases w' with
    | mk heap' tape' drawn' os' output' =>
      simp only at *
      subst h1 h2 h3
      simp only [Sort.grow, World.drewN, World.mk.injEq, true_and, and_true]
      exact ⟨hh, by omega⟩
theorem Tabs.cells {w w' : World} (hT : Tabs w) (h : ∀ a : Addr, a.block < 3 → w'.cell? a = w.cell? a) : Tabs w' :=
  ⟨⟨fun c hc => (h ⟨1, c, none⟩ (by show 1 < 3; omega)).trans (hT.u.1 c hc), fun i hi => ⟨(h ⟨2, 2 * i, none⟩ (by show 2 < 3; omega)).trans (hT.u.2 i hi).1, (h ⟨2, 2 * i + 1, none⟩ (by show 2 < 3; omega)).trans (hT.u.2 i hi).2⟩⟩,
    by obtain ⟨m, hm⟩ := hT.m; exact ⟨m, (h ⟨0, 0, none⟩ (by show 0 < 3; omega)).trans hm⟩⟩

/-- Texts that a path may be. -/
abbrev PathT := { p : ByteArray // p.size < 4294967281 }
/-- A change: its path, and whether there was, or is, an entry. -/
abbrev Chg := PathT × Bool × Bool
instance : Inhabited PathT := ⟨⟨⟨#[]⟩, by decide⟩⟩
def encC (x : Chg) : List Value := [.string x.1.1, .bool x.2.1, .bool x.2.2]
def cfC (x y : Chg) : Int := cmpP x.1.1 y.1.1

def RelOr (w : World) (q : Int) (i : Value) (wr : World) : Prop := wr = w ∧ (i = .int .i64 0 ∨ (i = .int .i64 1 ∧ q = 0) ∨ (i = .int .i64 2 ∧ q = 0))
set_option maxRecDepth 100000 in
theorem or_any {w : World} (q : Int) {g : Nat} (h0 : w.cell? ⟨g, 0, none⟩ = some (.int .i64 q)) (h1 : w.cell? ⟨g, 1, none⟩ = some (.int .i64 0)) :
    Calls Tryz.prog 83 #[.slice (some ⟨g, 0, none⟩) 2 2] w fun x w' => x = .returned (.int .i64 q) ∧ w' = w := by
  go_enter Tryz.func83, Tryz.ntmps83
  go_wp2_with fail
  go_loopw [8] (fun i wr => RelOr w q i wr) (fun i _ => 2 - (intOf i).toNat)
  case atStart => exact ⟨rfl, Or.inl rfl⟩
  case round =>
    obtain ⟨rfl, hc⟩ := hrel
    rcases hc with rfl | ⟨rfl, rfl⟩ | ⟨rfl, rfl⟩
    · by_cases hq : q = 0
      · subst hq
        go_wp2_with fail
        exact ⟨⟨rfl, Or.inr (Or.inl ⟨rfl, rfl⟩)⟩, by simp only [intOf]; omega⟩
      · have hq2 : (q != 0) = true := bne_iff_ne.2 hq
        go_wp2_with fail
        go_ret
        exact ⟨rfl, rfl⟩
    · go_wp2_with fail
      exact ⟨⟨rfl, Or.inr (Or.inr ⟨rfl, rfl⟩)⟩, by simp only [intOf]; omega⟩
    · go_wp2_with fail
      go_ret
      exact ⟨rfl, rfl⟩
set_option maxRecDepth 100000 in
theorem less_any {w : World} (p q : ByteArray) (hp : p.size < 4294967281) (hq : q.size < 4294967281) (b1 b2 b3 b4 : Bool) (hT : Tabs w) :
    Calls Tryz.prog 82 #[.agg #[.string p, .bool b1, .bool b2], .agg #[.string q, .bool b3, .bool b4]] w fun x w' => x = .returned (.int .i64 (cmpP p q)) ∧ Mods [] w w' := by
  have HO := Lib.hid (fun w' (hw : Mods [] w w') => order_any (w := w') p q hp hq (hT.mods hw))
  rw [show cmpL (partsP p) (partsP q) = cmpP p q from rfl] at HO
  generalize cmpP p q = z at *
  go_enter Tryz.func82, Tryz.ntmps82
  go_wp2_with fail
  refine (HO.out _ (((Mods.refl [] w).alloc _).alloc _)).mono ?_
  rintro x w1 ⟨rfl, hm⟩
  have HM := Lib.hid ((((Mods.refl [] w).alloc _).alloc _).trans hm (by simp))
  clear hm HO
  go_wp2_with fail
  have c0 : (w1.alloc (.cells #[.int .i64 z, .int .i64 0] 3)).cell? ⟨w1.heap.size, 0, none⟩ = some (.int .i64 z) := by
    rw [cell_of_row _ _ _ _ _ _ (heap_alloc_new w1 _)]
    rfl
  have c1 : (w1.alloc (.cells #[.int .i64 z, .int .i64 0] 3)).cell? ⟨w1.heap.size, 1, none⟩ = some (.int .i64 0) := by
    rw [cell_of_row _ _ _ _ _ _ (heap_alloc_new w1 _)]
    rfl
  refine (or_any z c0 c1).mono ?_
  rintro x w2 ⟨rfl, rfl⟩
  clear c0 c1
  go_wp2_with fail
  go_ret
  exact ⟨rfl, HM.out.alloc _⟩
theorem cmpLays82 (blk off size : Nat) {w : World} (hT : Tabs w) (hb : 3 ≤ blk) : CmpLays Tryz.prog 82 #[] encC 3 cfC blk off size w := by
  intro m os dk hs x y
  have hs3 := hT.three
  have hT' : Tabs (sortWorldK encC 3 w blk off m dk os) := hT.cells fun a ha => by
    unfold sortWorldK
    rw [Sort.cell?_grow _ _ _ (by show a.block < (Sort.putRowK encC 3 (Sort.ahead w m) blk off dk).heap.size; simp only [Sort.putRowK, Sort.putRow, Sort.mapBlock, Sort.ahead, Array.size_modify]; omega)]
    exact Sort.cell?_putRowK_other _ _ _ _ _ _ a (by omega)
  obtain ⟨⟨p, hp⟩, b1, b2⟩ := x
  obtain ⟨⟨q, hq⟩, b3, b4⟩ := y
  refine (Dr.calls_up (less_any p q hp hq b1 b2 b3 b4 hT')).mono ?_
  rintro e w' ⟨⟨rfl, hm⟩, hd⟩
  rcases hd with hd | hd
  · exact ⟨rfl, grow_of_mods hm hd⟩
  · cases hd
theorem ltC (x y : Chg) : ltOf cfC x y = decide (cmpP x.1.1 y.1.1 < 0) := rfl
theorem swoC : Sort.SWO (ltOf cfC) where
  irrefl x := by
    rw [ltC, cmpP_ord.self]
    rfl
  trans x y z h1 h2 := by
    rw [ltC] at *
    exact decide_eq_true (cmpP_ord.trans _ _ _ (of_decide_eq_true h1) (of_decide_eq_true h2))
  ntrans x y z h1 h2 := by
    rw [ltC] at *
    have h1 := of_decide_eq_false h1
    have h2 := of_decide_eq_false h2
    refine decide_eq_false fun h3 => ?_
    rcases cmpP_ord.total x.1.1 y.1.1 with e | e | e
    · exact h1 e
    · rw [e] at h3; exact h2 h3
    · exact h2 (cmpP_ord.trans _ _ _ e h3)
end Go.Proofs.YtmcekhgmmocajaaGreatDoor
namespace Go.Proofs.YtmcekhgmmocajaaGreatDoor
open Go.RowKit Me

theorem flat3 {A B : Type} (f : A → List B) (hf : ∀ x, (f x).length = 3) : ∀ (l : List A) (t : Nat), (l.flatMap f)[t]? = (l[t / 3]?).bind fun x => (f x)[t % 3]?
  | [], t => by simp
  | a :: l, t => by
    rw [List.flatMap_cons, List.getElem?_append, hf a]
    by_cases h : t < 3
    · rw [if_pos h, Nat.div_eq_of_lt h, Nat.mod_eq_of_lt h]
      rfl
    · rw [if_neg h, flat3 f hf l (t - 3)]
      have e1 : t / 3 = (t - 3) / 3 + 1 := by omega
      have e2 : t % 3 = (t - 3) % 3 := by omega
      rw [e1, e2]
      rfl
theorem flatK_list (d : Array Chg) : (Sort.flatK encC 3 d).toList = d.toList.flatMap encC := by
  apply List.ext_getElem?
  intro t
  rw [flat3 encC (fun _ => rfl)]
  rcases Nat.lt_or_ge t (d.size * 3) with h | h
  · have h1 : t / 3 < d.size := by omega
    rw [List.getElem?_eq_getElem (by simp; exact h), Array.getElem_toList, ← getElem!_pos (Sort.flatK encC 3 d) t (by simp; exact h), Sort.get_flatK _ _ _ _ h]
    rw [Array.getElem?_toList, Array.getElem?_eq_getElem h1, getElem!_pos d (t / 3) h1]
    show _ = (encC d[t / 3])[t % 3]?
    have h2 : t % 3 < (encC d[t / 3]).length := by show t % 3 < 3; omega
    rw [List.getElem?_eq_getElem h2, getElem!_pos (encC d[t / 3]) (t % 3) h2]
  · rw [List.getElem?_eq_none (by simp; exact h), Array.getElem?_toList, Array.getElem?_eq_none (by omega)]
    rfl
theorem isAgg54 (w : World) : (isAgg 54).run Tryz.prog w = .ok true w := by kernel_rfl
theorem size54 (w : World) : (Go.sizeOf 54).run Tryz.prog w = .ok 3 w := by kernel_rfl
theorem one54 (x : Chg) : ∀ v ∈ encC x, v.oneCell' = true := by
  intro v hv
  simp only [encC, List.mem_cons, List.not_mem_nil, or_false] at hv
  rcases hv with rfl | rfl | rfl <;> rfl
theorem enter82 (args : Array Value) (w : World) : (callFunc 82 args).run Tryz.prog w = .ok (.enter 82 args) w := enters_of Tryz.func82 (by kernel_rfl) rfl args w
/-- The row is sorted in place. -/
theorem sort_any {w : World} {base : Nat} (L : List Chg) {v : Value} (h : w.ownsRow base 54 3 v L.length (L.flatMap encC)) (hT : Tabs w) (hb : 3 ≤ base) (hn : L.length ≤ 1000000000) :
    Calls Tryz.prog 81 #[v, .func (.func 82) #[] #[]] w fun e w' => e = .returned (.tuple #[]) ∧ ∃ L' : List Chg, List.Perm L' L ∧ (L'.Pairwise fun a b => ¬ cmpP b.1.1 a.1.1 < 0) ∧ w'.ownsRow base 54 3 v L'.length (L'.flatMap encC) ∧ Mods v.ownBlock.toList w w' := by
  have hn0 : ∀ (p : Option Addr) (cap : Nat), Calls Tryz.prog 81 #[.slice p 0 cap, .func (.func 82) #[] #[]] w fun e w' => e = .returned (.tuple #[]) ∧ w' = w := fun p cap => AnyF.slices_SortFunc_none { Tryz.sortChg with } p cap (.func (.func 82) #[] #[]) w
  rcases Nat.eq_zero_or_pos L.length with h0 | h0
  · obtain rfl : L = [] := List.eq_nil_of_length_eq_zero h0
    obtain ⟨A, c, hv⟩ := own_ctor h
    subst hv
    refine (hn0 A c).mono ?_
    rintro e w' ⟨rfl, rfl⟩
    exact ⟨rfl, [], List.Perm.refl _, List.Pairwise.nil, h, Mods.refl _ _⟩
  rcases h.2 with ⟨-, e1⟩ | ⟨g, cap, cur, rfl, hbg, hg, hnc, hcm, hsz, hcur⟩
  · omega
  have hgl := (Array.getElem?_eq_some_iff.1 hg).1
  have hcl : L.length * 3 ≤ cur.size := by rw [hsz]; exact Nat.mul_le_mul_right 3 hnc
  have hH : Sort.HoldsK encC 3 w g 0 L.toArray := by
    intro j hj
    rw [Sort.size_flatK, List.size_toArray] at hj
    have hjc : j < cur.size := by omega
    refine ⟨?_, ?_⟩
    · rw [cell_of_row _ _ _ _ _ _ hg, Nat.zero_add]
      have h1 : (cur.toList.take (L.length * 3))[j]? = (L.flatMap encC)[j]? := by rw [hcur]
      rw [List.getElem?_take, if_pos hj, Array.getElem?_toList] at h1
      rw [h1]
      have h2 := flatK_list L.toArray
      rw [List.toList_toArray] at h2
      rw [← h2, Array.getElem?_toList, Array.getElem?_eq_getElem (by simp; exact hj), getElem!_pos _ _ (by simp; exact hj)]
      rfl
    · exact frozen_of_row _ _ _ _ _ hg
  have hc := AnyQ.slices_SortFunc Tryz.sortChg 3 isAgg54 size54 encC (fun _ => rfl) one54 cfC swoC 82 #[] g 0 cap L.toArray w enter82 (cmpLays82 g 0 _ hT (by omega)) hH hgl (by rw [List.size_toArray]; omega)
  rw [List.size_toArray] at hc
  refine Calls.mono hc ?_
  rintro e w' ⟨rfl, d', n, os, hp, hs, rfl⟩
  have hds : d'.size = L.length := by rw [hp.1, List.size_toArray]
  have hdl : d'.toList.length = L.length := by
    show d'.size = L.length
    exact hds
  refine ⟨rfl, d'.toList, ?_, ?_, ?_, ?_⟩
  · have := hp.2.2
    have e1 : (d'.extract 0 L.length).toList = d'.toList := by
      rw [← hds]
      simp
    have e2 : (L.toArray.extract 0 L.length).toList = L := by simp
    rw [e1, e2] at this
    exact this
  · rw [List.pairwise_iff_getElem]
    intro i j hi hj hij
    rw [Array.length_toList] at hi hj
    have := hs i j (Nat.zero_le _) hij (by omega)
    rw [getElem!_pos d' j hj, getElem!_pos d' i hi] at this
    rw [ltC] at this
    exact of_decide_eq_false this
  · have hg' : (sortWorldK encC 3 w g 0 n d' os).heap[g]? = some (.cells (Sort.putCells id 0 (Sort.flatK encC 3 d') cur) 54 (0, 0)) := by
      unfold sortWorldK
      rw [Sort.heap_grow_old _ _ (by simp only [Sort.putRowK, Sort.putRow, Sort.mapBlock, Sort.ahead, Array.size_modify]; exact hgl)]
      simp only [Sort.putRowK, Sort.putRow, Sort.mapBlock, Sort.ahead]
      rw [Array.getElem?_modify, if_pos rfl, hg]
      rfl
    refine ⟨?_, Or.inr ⟨g, cap, _, ?_, hbg, hg', ?_, hcm, ?_, ?_⟩⟩
    · rw [Array.length_toList, ← flatK_list, Array.length_toList, Sort.size_flatK]
    · rw [hdl]
    · rw [hdl]; exact hnc
    · simp only [Sort.putCells, Array.size_mapIdx]
      exact hsz
    · rw [← flatK_list]
      apply List.ext_getElem?
      intro j
      rw [List.getElem?_take, Array.length_toList]
      by_cases hj : j < d'.size * 3
      · rw [if_pos hj, Array.getElem?_toList, Array.getElem?_toList]
        simp only [Sort.putCells, Array.getElem?_mapIdx]
        rw [Array.getElem?_eq_getElem (show j < cur.size by omega), Array.getElem?_eq_getElem (by simp; exact hj)]
        simp only [Option.map_some, Sort.size_flatK]
        rw [if_pos (by omega), getElem!_pos _ _ (by simp; exact hj)]
        simp
      · rw [if_neg hj, List.getElem?_eq_none (by simp; omega)]
  · refine ⟨rfl, rfl, rfl, ?_, fun k hk hn => ?_⟩
    · simp only [sortWorldK, Sort.size_grow, Sort.putRowK, Sort.putRow, Sort.mapBlock, Sort.ahead, Array.size_modify]
      omega
    · unfold sortWorldK
      rw [Sort.heap_grow_old _ _ (by simp only [Sort.putRowK, Sort.putRow, Sort.mapBlock, Sort.ahead, Array.size_modify]; exact hk)]
      simp only [Sort.putRowK, Sort.putRow, Sort.mapBlock, Sort.ahead]
      rw [Array.getElem?_modify, if_neg (fun e => hn (by simp [Value.ownBlock, e]))]
end Go.Proofs.YtmcekhgmmocajaaGreatDoor
