/- A writer of one's own, its calls; known. -/
import Derived.Test.YtedddekkbgaolaaDoorSm
namespace Go.Proofs.YtedddekkbgaolaaDoor
open Go.RowKit Me

theorem tabs_mods {w w' : World} (h : Mods [] w w') (hT : Lib.Utf8Tabs 0 1 w) : Lib.Utf8Tabs 0 1 w' := tabs_keep (h.toBelow (by simp)) hT

/-- A writer that was made since w0, and nothing that was there ahead has changed since. -/
def OwnW (T : TypeId) (w0 w : World) (a : Nat) (S : WSt) : Prop := Mods [] w0 w ∧ ∃ vb vo, IsW T w a S vb vo ∧ ∀ k ∈ foot a vb vo, w0.heap.size ≤ k
theorem OwnW.next {T : TypeId} {w0 w w' : World} {a : Nat} {S' : WSt} {vb vo : Value} (hm : Mods [] w0 w) (hk : ∀ k ∈ foot a vb vo, w0.heap.size ≤ k) (h : WPost T w a vb vo S' w') : OwnW T w0 w' a S' := by
  obtain ⟨vb', vo', h1, h2, h3⟩ := h
  refine ⟨hm.trans h2 (fun b hb => Or.inr (hk b hb)), vb', vo', h1, fun k hh => ?_⟩
  rcases h3 k hh with h | h
  · exact hk k h
  · exact Nat.le_trans hm.size h
theorem OwnW.of_call {T : TypeId} {w0 w : World} {a : Nat} {S S' : WSt} {f : FuncId} {args : Array Value} {x : Value} (h : OwnW T w0 w a S)
    (hc : ∀ vb vo, IsW T w a S vb vo → Calls Tryd.prog f args w fun e w' => e = .returned x ∧ WPost T w a vb vo S' w') : Calls Tryd.prog f args w fun e w' => e = .returned x ∧ OwnW T w0 w' a S' := by
  obtain ⟨hm, vb, vo, h1, hk⟩ := h
  exact (hc vb vo h1).mono fun _ _ hh => ⟨hh.1, OwnW.next hm hk hh.2⟩
theorem OwnW.still {T : TypeId} {w0 w w' : World} {a : Nat} {S : WSt} (h : OwnW T w0 w a S) (hm : Mods [] w w') : OwnW T w0 w' a S := by
  obtain ⟨h0, vb, vo, h1, hk⟩ := h
  exact ⟨h0.trans hm (fun _ h => Or.inl h), vb, vo, h1.mods hm (fun _ _ h => by cases h), hk⟩

/-- A reader that was made since w0, and nothing that was there ahead has changed since. -/
def OwnR (T : TypeId) (w0 w : World) (a : Nat) (S : RSt) (vb : Value) : Prop := Mods [] w0 w ∧ IsR T w a S vb ∧ w0.heap.size ≤ a ∧ ∀ k, vb.ownBlock = some k → k < w.heap.size
theorem OwnR.make {T : TypeId} {w0 w w' : World} {a : Nat} {S : RSt} {vb : Value} (h : Mods [] w0 w) (hi : IsR T w' a S vb) (hk : ∀ k, vb.ownBlock = some k → k < w'.heap.size) (ha : w.heap.size ≤ a) (hm : Mods [] w w') : OwnR T w0 w' a S vb :=
  ⟨h.trans hm (fun _ h => Or.inl h), hi, Nat.le_trans h.size ha, hk⟩
theorem OwnR.next {T : TypeId} {w0 w w' : World} {a : Nat} {S S' : RSt} {vb : Value} (h : OwnR T w0 w a S vb) (hp : RPost T w a vb S' w') : OwnR T w0 w' a S' vb :=
  ⟨h.1.trans hp.2 (fun b hb => by simp at hb; subst hb; exact Or.inr h.2.2.1), hp.1, h.2.2.1, fun k hk => Nat.lt_of_lt_of_le (h.2.2.2 k hk) hp.2.size⟩
theorem OwnR.drewN {T : TypeId} {w0 w : World} {a : Nat} {S : RSt} {vb : Value} (h : OwnR T w0 w a S vb) (k : Nat) : OwnR T w0 (w.drewN k) a S vb := ⟨h.1.drewN k, h.2.1.drewN k, h.2.2.1, h.2.2.2⟩
/-- Another reader has gone on. -/
theorem OwnR.other {T T' : TypeId} {w0 w w' : World} {a b : Nat} {S R R' : RSt} {vb vc : Value} (h : OwnR T w0 w a S vb) (hb : OwnR T' w0 w b R vc) (hp : RPost T' w b vc R' w') (hab : a ≠ b) (hn : vb.ownBlock ≠ some b) : OwnR T w0 w' a S vb :=
  ⟨h.1.trans hp.2 (fun c hc => by simp at hc; subst hc; exact Or.inr hb.2.2.1), h.2.1.mods hp.2 (by simpa using hab) (fun k hk => by simp; intro e; subst e; exact hn hk), h.2.2.1, fun k hk => Nat.lt_of_lt_of_le (h.2.2.2 k hk) hp.2.size⟩
theorem OwnR.of_call {T : TypeId} {w0 w : World} {a : Nat} {S S' : RSt} {vb : Value} {f : FuncId} {args : Array Value} {x : Value} (h : OwnR T w0 w a S vb)
    (hc : IsR T w a S vb → Calls Tryd.prog f args w fun e w' => e = .returned x ∧ RPost T w a vb S' w') : Calls Tryd.prog f args w fun e w' => e = .returned x ∧ OwnR T w0 w' a S' vb :=
  (hc h.2.1).mono fun _ _ hh => ⟨hh.1, h.next hh.2⟩
theorem OwnR.of_call2 {T T' : TypeId} {w0 w : World} {a b : Nat} {S S' R : RSt} {vb vc : Value} {f : FuncId} {args : Array Value} {x : Value} (h : OwnR T w0 w a S vb) (ho : OwnR T' w0 w b R vc) (hab : b ≠ a) (hn : vc.ownBlock ≠ some a)
    (hc : IsR T w a S vb → Calls Tryd.prog f args w fun e w' => e = .returned x ∧ RPost T w a vb S' w') : Calls Tryd.prog f args w fun e w' => e = .returned x ∧ OwnR T w0 w' a S' vb ∧ OwnR T' w0 w' b R vc :=
  (hc h.2.1).mono fun _ _ hh => ⟨hh.1, h.next hh.2, ho.other h hh.2 hab hn⟩
theorem OwnR.of_part {T : TypeId} {w0 w : World} {a : Nat} {S : RSt} {r : RSt × RSt} {vb : Value} {f : FuncId} {args : Array Value} (h : OwnR T w0 w a S vb)
    (hc : Calls Tryd.prog f args w (PartPost T w a vb r)) : Calls Tryd.prog f args w fun e w' => ∃ p vp, e = .returned (.pointer (some ⟨p, 0, none⟩)) ∧ OwnR T w0 w' a r.2 vb ∧ OwnR T w0 w' p r.1 vp ∧ a ≠ p ∧ vb.ownBlock ≠ some p :=
  hc.mono fun _ _ ⟨p, vp, e, h1, h2, h3, h4⟩ => by
    have hq := h.next h4
    have ha : a < w.heap.size := by have := h.2.1.cells; exact (Array.getElem?_eq_some_iff.1 this).1
    exact ⟨p, vp, e, hq, ⟨hq.1, h1, Nat.le_trans h.1.size h2, fun k hk => hq.2.2.2 k (h3 k hk)⟩, by omega, fun hk => by have := h.2.2.2 p hk; omega⟩

def k1 : WSt := ⟨20, [2, 1], [], 0⟩
def k2 : WSt := ⟨20, [2, 1, 0, 0], [2], 0⟩
def k3 : WSt := ⟨20, [2, 1, 0, 0, 7], [2], 0⟩
def k4 : WSt := ⟨20, [2, 1, 0, 0, 7, 2, 0, 97, 98], [2], 0⟩
def k5 : WSt := ⟨20, [2, 1, 5, 0, 7, 2, 0, 97, 98], [], 0⟩
theorem good_ab : Tx.good [97, 98] = true := by decide
theorem k1_eq : (WSt.new 20).put (le 258 2) = k1 := rfl
theorem k2_eq : k1.opn = (k2, 2) := rfl
theorem k3_eq : k2.put (le 7 1) = k3 := rfl
theorem k4_eq : k3.text [97, 98] = k4 := by unfold WSt.text; rw [good_ab]; rfl
theorem k5_eq : k4.shut 2 = k5 := rfl
def kb : List UInt8 := [2, 1, 5, 0, 7, 2, 0, 97, 98]
def r1 : RSt := ⟨[2, 1, 5, 0, 7, 2, 0, 97, 98], 2, 0, 0, 0⟩
def r2 : RSt := ⟨[2, 1, 5, 0, 7, 2, 0, 97, 98], 9, 0, 0, 0⟩
def p0 : RSt := ⟨[7, 2, 0, 97, 98], 0, 4, 0, 0⟩
def p1 : RSt := ⟨[7, 2, 0, 97, 98], 1, 4, 0, 0⟩
def p2 : RSt := ⟨[7, 2, 0, 97, 98], 5, 4, 0, 0⟩
theorem r1_eq : (RSt.new kb).get 2 = (258, r1) := rfl
theorem r2_eq : r1.part = (p0, r2) := rfl
theorem p1_eq : p0.get 1 = (7, p1) := rfl
theorem p2_eq : p1.text = ([97, 98], p2) := by
  unfold RSt.text
  have h : p1.counted = (some 2, p1) := rfl
  have h2 : p1.part2 2 = [97, 98] := rfl
  rw [h]
  simp only [h2, good_ab]
  rfl
theorem k5_done : k5.done = (kb, 0) := rfl
theorem ab_str : (⟨#[97, 98]⟩ : ByteArray).data.toList = [97, 98] := rfl
theorem rd_lit (w : World) (l : List UInt8) (t : TypeId) (hl : l.length ≤ maxLen := by decide) : Rd (w.alloc (.cells (l.map byteV).toArray t)) (.slice (some ⟨w.heap.size, 0, none⟩) l.length l.length) (l.map byteV) := by
  refine ⟨_, l.length, by rw [List.length_map], by simp, hl, fun j u hu => ⟨_, _, rfl, ?_⟩⟩
  have := cells_new w (l.map byteV) t j u hu
  rwa [Addr.add_lit] at this
set_option maxRecDepth 100000 in
set_option maxHeartbeats 1000000 in
theorem known_any (w : World) (hT : Lib.Utf8Tabs 0 1 w) :
    Calls Tryd.prog 21 #[] w fun e w' => e = .returned (.bool true) ∧ Mods [] w w' := by
  go_enter Tryd.func21, Tryd.ntmps21
  go_wp2_with fail
  refine (newWriter_ok 20 w (by omega)).mono ?_; rintro e w1 ⟨rfl, h1, m1⟩
  have W1 := Lib.hid (show OwnW 122 w w1 w.heap.size (WSt.new 20) from ⟨m1, _, _, h1, by simp [foot, Value.ownBlock]⟩)
  clear h1 m1
  generalize w.heap.size = a at *
  go_wp2_with fail
  refine (W1.out.of_call (fun _ _ h => u16_any h 258 (by omega))).mono ?_; rintro e w2 ⟨rfl, h2⟩
  rw [k1_eq] at h2
  have W2 := Lib.hid h2
  clear h2
  go_wp2_with fail
  refine (W2.out.of_call (fun _ _ h => open_any h)).mono ?_; rintro e w3 ⟨rfl, h3⟩
  rw [k2_eq] at h3 ⊢
  have W3 := Lib.hid h3
  clear h3
  go_wp2_with fail
  refine (W3.out.of_call (fun _ _ h => u8_any h 7 (by omega))).mono ?_; rintro e w4 ⟨rfl, h4⟩
  rw [k3_eq] at h4
  have W4 := Lib.hid h4
  clear h4
  go_wp2_with fail
  refine (W4.out.of_call (fun _ _ h => text_any h ⟨#[97, 98]⟩ (by decide) (tabs_mods W4.out.1 hT))).mono ?_; rintro e w5 ⟨rfl, h5⟩
  rw [ab_str, k4_eq] at h5
  have W5 := Lib.hid h5
  clear h5
  go_wp2_with fail
  refine (W5.out.of_call (fun _ _ h => shut_any h 2)).mono ?_; rintro e w6 ⟨rfl, h6⟩
  rw [k5_eq] at h6
  have W6 := Lib.hid h6
  clear h6
  go_wp2_with fail
  obtain ⟨-, vb, vo, h6, -⟩ := W6.out
  refine (done_any h6).mono ?_; rintro e w7 ⟨v, rfl, ho, hm7⟩
  rw [k5_done] at ho ⊢
  obtain ⟨A, c, rfl⟩ := own_ctor ho
  have M7 := Lib.hid (W6.out.1.trans hm7 (fun _ h => Or.inl h))
  have R7 := Lib.hid (Rd.of_own ho)
  clear ho hm7 h6
  have L8 := Lib.hid (rd_lit w7 kb 5)
  have R8 := Lib.hid (R7.out.mods (F := []) ((Mods.refl _ _).alloc (.cells (kb.map byteV).toArray 5)) (by simp))
  have M8 := Lib.hid (M7.out.alloc (.cells (kb.map byteV).toArray 5))
  go_wp2_with fail
  refine (same_any kb kb R8.out L8.out (by decide) (by decide)).mono ?_; rintro e w8 ⟨rfl, k, rfl⟩
  rw [decide_eq_true (rfl : kb = kb)]
  have R9 := Lib.hid (R8.out.mods (F := []) ((Mods.refl _ _).drewN k) (by simp))
  have M9 := Lib.hid (M8.out.drewN k)
  clear L8
  generalize ((w7.alloc (.cells (kb.map byteV).toArray 5)).drewN k) = w9 at *
  go_wp2_with fail
  refine (newReader_any kb R9.out (by decide)).mono ?_; rintro e w10 ⟨ra, vr, rfl, hr, ho, hra, hm⟩
  have Q1 := Lib.hid (OwnR.make M9.out hr (fun k hk => (ho.lt k hk).2) hra hm)
  clear hr ho hra hm
  go_wp2_with fail
  refine (Q1.out.of_call (fun h => ru16_any h)).mono ?_; rintro e w11 ⟨rfl, hq⟩
  rw [r1_eq] at hq ⊢
  have Q2 := Lib.hid hq
  clear hq
  go_wp2_with fail
  refine (Q2.out.of_part (rpart_any Q2.out.2.1)).mono ?_; rintro e w12 ⟨p, vp, rfl, hq, hp, hne, hne2⟩
  rw [r2_eq] at hq hp
  have Q3 := Lib.hid hq
  have P1 := Lib.hid hp
  clear hq hp
  go_wp2_with fail
  refine (P1.out.of_call2 Q3.out hne hne2 (fun h => ru8_any h)).mono ?_; rintro e w13 ⟨rfl, hp, hq⟩
  rw [p1_eq] at hp ⊢
  have Q4 := Lib.hid hq
  have P2 := Lib.hid hp
  clear hq hp
  go_wp2_with fail
  refine (P2.out.of_call2 Q4.out hne hne2 (fun h => rtext_any h (tabs_mods P2.out.1 hT))).mono ?_; rintro e w14 ⟨rfl, hp, hq⟩
  rw [p2_eq] at hp ⊢
  have Q5 := Lib.hid hq
  have P3 := Lib.hid hp
  clear hq hp
  go_wp2_with fail
  refine (err_any P3.out.2.1).mono ?_; rintro e w15 ⟨rfl, kk, rfl⟩
  rw [show p2.err = 0 from rfl, show p2.spot = 0 from rfl]
  have Q6 := Lib.hid (Q5.out.drewN kk)
  have P4 := Lib.hid (P3.out.drewN kk)
  generalize w14.drewN kk = w15 at *
  go_wp2_with fail
  refine (at_any P4.out.2.1).mono ?_; rintro e w16 ⟨rfl, kl, rfl⟩
  rw [show p2.base + p2.place = 9 from rfl]
  have Q7 := Lib.hid (Q6.out.drewN kl)
  generalize w15.drewN kl = w16 at *
  go_wp2_with fail
  refine (left_any Q7.out.2.1).mono ?_; rintro e w17 ⟨rfl, km, rfl⟩
  rw [show r2.left = 0 from rfl]
  go_wp2_with fail
  go_ret
  exact ⟨rfl, Q7.out.1.drewN km⟩
end Go.Proofs.YtedddekkbgaolaaDoor
