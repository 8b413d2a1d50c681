/- The reference's TakeQid, Take. (Printed by wip/bin/gentake2.py.) -/
import Derived.Test.YtnpokdbpmnkbjaaGreatDoorTk
import Derived.Test.YtnpokdbpmnkbjaaGreatDoorRx
namespace Go.Proofs.YtnpokdbpmnkbjaaGreatDoor
open Go.RowKit Me

def zQ : Array Value := #[.int .u8 0, .int .u32 0, .int .u64 0]
structure TkS (T : TypeId) (Z : Array Value) (t : TypeId) (w : World) (a p b0 b1 bs : Nat) (vb vp : Value) (R X : RSt) (row : Array Value) (v : World) : Prop where
  out : a ≠ p → IsR T v a R vb
  part : IsR T v p X vp
  mods : Mods [a] w v
  res : v.heap[b0]? = some (.cells Z t (0, 0))
  zer : v.heap[b1]? = some (.cells Z t (0, 0))
  row : v.heap[bs]? = some (.cells row t (0, 0))
structure TkN (w : World) (a p b0 b1 bs : Nat) (vb vp : Value) : Prop where
  vbp : vb.ownBlock ≠ some p
  np : w.heap.size ≤ p ∨ p = a
  B0 : b0 ≠ a ∧ b0 ≠ p ∧ w.heap.size ≤ b0 ∧ vb.ownBlock ≠ some b0 ∧ vp.ownBlock ≠ some b0
  B1 : b1 ≠ a ∧ b1 ≠ p ∧ w.heap.size ≤ b1 ∧ vb.ownBlock ≠ some b1 ∧ vp.ownBlock ≠ some b1
  BS : bs ≠ a ∧ bs ≠ p ∧ w.heap.size ≤ bs ∧ vb.ownBlock ≠ some bs ∧ vp.ownBlock ≠ some bs
  s0 : b0 ≠ bs
  s1 : b1 ≠ bs
section
variable {T : TypeId} {Z : Array Value} {t : TypeId} {w v v' : World} {a p b0 b1 bs : Nat} {vb vp : Value} {R X X' : RSt} {row : Array Value}
theorem TkS.next (n : TkN w a p b0 b1 bs vb vp) (h : TkS T Z t w a p b0 b1 bs vb vp R X row v) (hp : RPost T v p vp X' v') : TkS T Z t w a p b0 b1 bs vb vp R X' row v' :=
  ⟨fun e => (h.out e).mods hp.2 (by simpa using e) (fun k hk hm => n.vbp (by simp at hm; subst hm; exact hk)), hp.1, h.mods.trans hp.2 (fun b hb => by simp at hb; subst hb; rcases n.np with h | h; exact Or.inr h; exact Or.inl (by simp [h])),
   hp.2.heap h.res (by simpa using n.B0.2.1), hp.2.heap h.zer (by simpa using n.B1.2.1), hp.2.heap h.row (by simpa using n.BS.2.1)⟩
theorem TkS.set (n : TkN w a p b0 b1 bs vb vp) (h : TkS T Z t w a p b0 b1 bs vb vp R X row v) (i : Nat) (u : Value) : TkS T Z t w a p b0 b1 bs vb vp R X (row.setIfInBounds i u) (v.setCell ⟨bs, i, none⟩ u) :=
  ⟨fun e => (h.out e).setNew n.BS.1 n.BS.2.2.2.1 i u, h.part.setNew n.BS.2.1 n.BS.2.2.2.2 i u, h.mods.setCell (p := ⟨bs, i, none⟩) (Or.inr n.BS.2.2.1) u,
   (heap_setCell_other v ⟨bs, i, none⟩ b0 u n.s0).trans h.res, (heap_setCell_other v ⟨bs, i, none⟩ b1 u n.s1).trans h.zer, heap_setCell_same v bs i row t u h.row⟩
theorem TkS.drewN (h : TkS T Z t w a p b0 b1 bs vb vp R X row v) (k : Nat) : TkS T Z t w a p b0 b1 bs vb vp R X row (v.drewN k) :=
  ⟨fun e => (h.out e).drewN k, h.part.drewN k, h.mods.drewN k, h.res, h.zer, h.row⟩
theorem TkS.fail (n : TkN w a p b0 b1 bs vb vp) (hne : a ≠ p) (hvp : vp.ownBlock ≠ some a) (h : TkS T Z t w a p b0 b1 bs vb vp R X row v) (hp : RPost T v a vb X' v') : TkS T Z t w a p b0 b1 bs vb vp X' X row v' :=
  ⟨fun _ => hp.1, h.part.mods hp.2 (by simpa using fun e => hne e.symm) (fun k hk hm => hvp (by simp at hm; subst hm; exact hk)), h.mods.trans hp.2 (fun b hb => Or.inl hb),
   hp.2.heap h.res (by simpa using n.B0.1), hp.2.heap h.zer (by simpa using n.B1.1), hp.2.heap h.row (by simpa using n.BS.1)⟩
end

set_option maxRecDepth 100000 in
set_option maxHeartbeats 400000 in
theorem rtakeQid_any {a : Nat} {S : RSt} {vb : Value} {w : World} (h : IsR 142 w a S vb) (hv : ∀ k, vb.ownBlock = some k → k < w.heap.size) :
    Calls Tryz.prog 67 #[.pointer (some ⟨a, 0, none⟩)] w fun e w' => e = .returned (.agg (qidV S.qid.1)) ∧ RPost 142 w a vb S.qid.2 w' := by
  have ha : a < w.heap.size := (Array.getElem?_eq_some_iff.1 h.cells).1
  have hna := h.na
  have A0 : Hid (TkS 142 zQ 32 w a a w.heap.size (w.heap.size + 1) (w.heap.size + 2) vb vb S S #[.int .u8 0, .int .u32 0, .int .u64 0] (((w.alloc (.cells zQ 32)).alloc (.cells zQ 32)).alloc (.cells zQ 32))) := by
    have hm : Mods [] w (((w.alloc (.cells zQ 32)).alloc (.cells zQ 32)).alloc (.cells zQ 32)) := (((Mods.refl [] w).alloc _).alloc _).alloc _
    refine Lib.hid ⟨fun e => absurd rfl e, h.mods hm (by simp) (by simp), hm.mono (by simp), ?_, ?_, ?_⟩
    · rw [Go.heap_alloc_old _ _ (by simp; omega), Go.heap_alloc_old _ _ (by simp)]
      exact heap_alloc_new w _
    · rw [Go.heap_alloc_old _ _ (by simp)]
      have := heap_alloc_new (w.alloc (.cells zQ 32)) (.cells zQ 32)
      simpa using this
    · have := heap_alloc_new ((w.alloc (.cells zQ 32)).alloc (.cells zQ 32)) (.cells zQ 32)
      rw [show ((w.alloc (.cells zQ 32)).alloc (.cells zQ 32)).heap.size = w.heap.size + 2 by simp] at this
      exact this
  have HN : Hid (TkN w a a w.heap.size (w.heap.size + 1) (w.heap.size + 2) vb vb) := by
    refine Lib.hid ⟨hna, Or.inr rfl, ⟨by omega, by omega, by omega, ?_, ?_⟩, ⟨by omega, by omega, by omega, ?_, ?_⟩, ⟨by omega, by omega, by omega, ?_, ?_⟩, by omega, by omega⟩ <;>
      (intro e; have := hv _ e; omega)
  unfold zQ at A0
  generalize hg1 : S.get 1 = g1 at *
  have G1 := Lib.hid hg1
  generalize hg2 : g1.2.get 4 = g2 at *
  have G2 := Lib.hid hg2
  generalize hg3 : g2.2.get 8 = g3 at *
  have G3 := Lib.hid hg3
  have HQ := Lib.hid (qid_eq hg1 hg2 hg3)
  clear h hg1 hg2 hg3 hv hna ha
  go_enter Tryz.func67, Tryz.ntmps67
  go_wp2_with fail
  generalize ((w.alloc (.cells #[.int .u8 0, .int .u32 0, .int .u64 0] 32)).alloc (.cells #[.int .u8 0, .int .u32 0, .int .u64 0] 32)).alloc (.cells #[.int .u8 0, .int .u32 0, .int .u64 0] 32) = v0 at *
  generalize w.heap.size = b0 at *

  refine (qu8_any A0.out.part).mono ?_; rintro e w1 ⟨rfl, hp⟩
  rw [G1.out] at hp ⊢
  have hA := A0.out.next HN.out hp
  have c0 : w1.cell? ⟨b0 + 2, 0, none⟩ = some (.int .u8 0) := by rw [cell_of_row _ _ _ _ _ _ hA.row]; rfl
  have f0 : w1.frozen? ⟨b0 + 2, 0, none⟩ = false := frozen_of_row _ _ _ _ _ hA.row
  have A1 : Hid (TkS 142 #[.int .u8 0, .int .u32 0, .int .u64 0] 32 w a a b0 (b0 + 1) (b0 + 2) vb vb S g1.2 #[.int .u8 (g1.1 : Int), .int .u32 0, .int .u64 0] _) := Lib.hid (hA.set HN.out 0 (.int .u8 (g1.1 : Int)))
  clear hp hA A0
  go_wp2_with fail
  clear c0 f0
  generalize (w1.setCell ⟨b0 + 2, 0, none⟩ (.int .u8 (g1.1 : Int))) = z1 at *
  refine (qu32_any A1.out.part).mono ?_; rintro e w2 ⟨rfl, hp⟩
  rw [G2.out] at hp ⊢
  have hA := A1.out.next HN.out hp
  have c1 : w2.cell? ⟨b0 + 2, 1, none⟩ = some (.int .u32 0) := by rw [cell_of_row _ _ _ _ _ _ hA.row]; rfl
  have f1 : w2.frozen? ⟨b0 + 2, 1, none⟩ = false := frozen_of_row _ _ _ _ _ hA.row
  have A2 : Hid (TkS 142 #[.int .u8 0, .int .u32 0, .int .u64 0] 32 w a a b0 (b0 + 1) (b0 + 2) vb vb S g2.2 #[.int .u8 (g1.1 : Int), .int .u32 (g2.1 : Int), .int .u64 0] _) := Lib.hid (hA.set HN.out 1 (.int .u32 (g2.1 : Int)))
  clear hp hA A1
  go_wp2_with fail
  clear c1 f1
  generalize (w2.setCell ⟨b0 + 2, 1, none⟩ (.int .u32 (g2.1 : Int))) = z2 at *
  refine (qu64_any A2.out.part).mono ?_; rintro e w3 ⟨rfl, hp⟩
  rw [G3.out] at hp ⊢
  have hA := A2.out.next HN.out hp
  have c2 : w3.cell? ⟨b0 + 2, 2, none⟩ = some (.int .u64 0) := by rw [cell_of_row _ _ _ _ _ _ hA.row]; rfl
  have f2 : w3.frozen? ⟨b0 + 2, 2, none⟩ = false := frozen_of_row _ _ _ _ _ hA.row
  have A3 : Hid (TkS 142 #[.int .u8 0, .int .u32 0, .int .u64 0] 32 w a a b0 (b0 + 1) (b0 + 2) vb vb S g3.2 #[.int .u8 (g1.1 : Int), .int .u32 (g2.1 : Int), .int .u64 (g3.1 : Int)] _) := Lib.hid (hA.set HN.out 2 (.int .u64 (g3.1 : Int)))
  clear hp hA A2
  go_wp2_with fail
  clear c2 f2
  generalize (w3.setCell ⟨b0 + 2, 2, none⟩ (.int .u64 (g3.1 : Int))) = z3 at *
  refine (qerr_any A3.out.part).mono ?_; rintro e v4 ⟨rfl, k, rfl⟩
  have A4 := Lib.hid (A3.out.drewN k)
  generalize z3.drewN k = v4 at *
  clear A3
  have HR : Hid (RPost 142 w a vb g3.2 v4) := Lib.hid ⟨A4.out.part, A4.out.mods⟩
  have HEQ := HQ
  clear HQ
  by_cases he : g3.2.err = 0
  · have hb : (g3.2.err != 0) = false := by rw [he]; rfl
    have HE := Lib.hid he
    clear he
    have c0 : v4.cell? ⟨b0 + 2, 0, none⟩ = some (.int .u8 (g1.1 : Int)) := by rw [cell_of_row _ _ _ _ _ _ A4.out.row]; rfl
    have c1 : v4.cell? ⟨b0 + 2, 1, none⟩ = some (.int .u32 (g2.1 : Int)) := by rw [cell_of_row _ _ _ _ _ _ A4.out.row]; rfl
    have c2 : v4.cell? ⟨b0 + 2, 2, none⟩ = some (.int .u64 (g3.1 : Int)) := by rw [cell_of_row _ _ _ _ _ _ A4.out.row]; rfl
    have d0 : v4.cell? ⟨b0, 0, none⟩ = some (.int .u8 0) := by rw [cell_of_row _ _ _ _ _ _ A4.out.res]; rfl
    have k0 : v4.frozen? ⟨b0, 0, none⟩ = false := frozen_of_row _ _ _ _ _ A4.out.res
    have d1 : v4.cell? ⟨b0, 1, none⟩ = some (.int .u32 0) := by rw [cell_of_row _ _ _ _ _ _ A4.out.res]; rfl
    have k1 : v4.frozen? ⟨b0, 1, none⟩ = false := frozen_of_row _ _ _ _ _ A4.out.res
    have d2 : v4.cell? ⟨b0, 2, none⟩ = some (.int .u64 0) := by rw [cell_of_row _ _ _ _ _ _ A4.out.res]; rfl
    have k2 : v4.frozen? ⟨b0, 2, none⟩ = false := frozen_of_row _ _ _ _ _ A4.out.res
    go_wp2_with fail
    refine bodyPost_ret (v := .agg #[.int .u8 (g1.1 : Int), .int .u32 (g2.1 : Int), .int .u64 (g3.1 : Int)]) (by simp [results, Tryz.results67, go_sem, d0, d1, d2]) rfl ?_
    have hM := ((((Mods.refl [b0] v4).setCell (p := ⟨b0, 0, none⟩) (Or.inl (by simp)) (.int .u8 (g1.1 : Int))).setCell (p := ⟨b0, 1, none⟩) (Or.inl (by simp)) (.int .u32 (g2.1 : Int))).setCell (p := ⟨b0, 2, none⟩) (Or.inl (by simp)) (.int .u64 (g3.1 : Int)))
    rw [HEQ.out, if_neg (by simpa using HE.out)]
    exact ⟨rfl, HR.out.1.mods hM (by simpa using fun e => HN.out.B0.1 e.symm) (fun k hk hm => HN.out.B0.2.2.2.1 (by simp at hm; subst hm; exact hk)), HR.out.2.trans hM (fun b hb => by simp at hb; subst hb; exact Or.inr HN.out.B0.2.2.1)⟩
  · have hb : (g3.2.err != 0) = true := by simpa using he
    have HE := Lib.hid he
    clear he
    have c0 : v4.cell? ⟨(b0 + 1), 0, none⟩ = some (.int .u8 0) := by rw [cell_of_row _ _ _ _ _ _ A4.out.zer]; rfl
    have c1 : v4.cell? ⟨(b0 + 1), 1, none⟩ = some (.int .u32 0) := by rw [cell_of_row _ _ _ _ _ _ A4.out.zer]; rfl
    have c2 : v4.cell? ⟨(b0 + 1), 2, none⟩ = some (.int .u64 0) := by rw [cell_of_row _ _ _ _ _ _ A4.out.zer]; rfl
    have d0 : v4.cell? ⟨b0, 0, none⟩ = some (.int .u8 0) := by rw [cell_of_row _ _ _ _ _ _ A4.out.res]; rfl
    have k0 : v4.frozen? ⟨b0, 0, none⟩ = false := frozen_of_row _ _ _ _ _ A4.out.res
    have d1 : v4.cell? ⟨b0, 1, none⟩ = some (.int .u32 0) := by rw [cell_of_row _ _ _ _ _ _ A4.out.res]; rfl
    have k1 : v4.frozen? ⟨b0, 1, none⟩ = false := frozen_of_row _ _ _ _ _ A4.out.res
    have d2 : v4.cell? ⟨b0, 2, none⟩ = some (.int .u64 0) := by rw [cell_of_row _ _ _ _ _ _ A4.out.res]; rfl
    have k2 : v4.frozen? ⟨b0, 2, none⟩ = false := frozen_of_row _ _ _ _ _ A4.out.res
    go_wp2_with fail
    refine bodyPost_ret (v := .agg #[.int .u8 0, .int .u32 0, .int .u64 0]) (by simp [results, Tryz.results67, go_sem, d0, d1, d2]) rfl ?_
    have hM := ((((Mods.refl [b0] v4).setCell (p := ⟨b0, 0, none⟩) (Or.inl (by simp)) (.int .u8 0)).setCell (p := ⟨b0, 1, none⟩) (Or.inl (by simp)) (.int .u32 0)).setCell (p := ⟨b0, 2, none⟩) (Or.inl (by simp)) (.int .u64 0))
    rw [HEQ.out, if_pos HE.out]
    exact ⟨rfl, HR.out.1.mods hM (by simpa using fun e => HN.out.B0.1 e.symm) (fun k hk hm => HN.out.B0.2.2.2.1 (by simp at hm; subst hm; exact hk)), HR.out.2.trans hM (fun b hb => by simp at hb; subst hb; exact Or.inr HN.out.B0.2.2.1)⟩
theorem RSt.part_err {S : RSt} (h : S.part.1.err = 0) : S.part.2.err = 0 := by
  obtain ⟨h1, -, -, h2⟩ := RSt.part_of h
  rw [h2]
  exact h1.err
theorem fin_part {S : RSt} {P : RSt × RSt} {g1 g2 : Nat × RSt} {q : QidP × RSt} {g4 g5 g6 g7 : Nat × RSt} {x8 x9 x10 x11 : List UInt8 × RSt} {F : RSt} (hP : S.part = P) (h1 : P.1.get 2 = g1) (h2 : g1.2.get 4 = g2) (h3 : g2.2.qid = q) (h4 : q.2.get 4 = g4) (h5 : g4.2.get 4 = g5) (h6 : g5.2.get 4 = g6) (h7 : g6.2.get 8 = g7)
    (h8 : g7.2.text = x8) (h9 : x8.2.text = x9) (h10 : x9.2.text = x10) (h11 : x10.2.text = x11) (hF : x11.2.fin = F) (he : F.err = 0) : P.2.err = 0 := by
  subst hP
  subst h1
  subst h2
  subst h3
  subst h4
  subst h5
  subst h6
  subst h7
  subst h8
  subst h9
  subst h10
  subst h11
  subst hF
  exact RSt.part_err (RSt.fields_err (S := S.part.1) he)
theorem wrong_zero (S : RSt) (n : Nat) : S.wrong 0 n = S := by
  unfold RSt.wrong
  rw [if_neg (by simp)]
set_option maxRecDepth 100000 in
set_option maxHeartbeats 2000000 in
theorem rtake_any {a : Nat} {S : RSt} {vb : Value} {w : World} (h : IsR 142 w a S vb) (hv : ∀ k, vb.ownBlock = some k → k < w.heap.size) :
    Calls Tryz.prog 63 #[.pointer (some ⟨a, 0, none⟩)] w fun e w' => e = .returned (.agg (statV S.stat.1)) ∧ RPost 142 w a vb S.stat.2 w' := by
  have ha : a < w.heap.size := (Array.getElem?_eq_some_iff.1 h.cells).1
  have hna := h.na
  have hm0 : Mods [] w ((w.alloc (.cells zeroV 35)).alloc (.cells zeroV 35)) := ((Mods.refl [] w).alloc _).alloc _
  have H0 := Lib.hid (h.mods hm0 (by simp) (by simp))
  have M0 : Hid (Mods [a] w ((w.alloc (.cells zeroV 35)).alloc (.cells zeroV 35))) := Lib.hid (hm0.mono (by simp))
  have B0 : Hid (((w.alloc (.cells zeroV 35)).alloc (.cells zeroV 35)).heap[w.heap.size]? = some (.cells zeroV 35 (0, 0))) := by
    refine Lib.hid ?_
    rw [Go.heap_alloc_old _ _ (by simp)]
    exact heap_alloc_new w _
  have B1 : Hid (((w.alloc (.cells zeroV 35)).alloc (.cells zeroV 35)).heap[w.heap.size + 1]? = some (.cells zeroV 35 (0, 0))) := by
    refine Lib.hid ?_
    have := heap_alloc_new (w.alloc (.cells zeroV 35)) (.cells zeroV 35)
    rw [show (w.alloc (.cells zeroV 35)).heap.size = w.heap.size + 1 by simp] at this
    exact this
  have HS : ((w.alloc (.cells zeroV 35)).alloc (.cells zeroV 35)).heap.size = w.heap.size + 2 := by simp
  have HSZ := Lib.hid HS
  have HV := Lib.hid hv
  have HA := Lib.hid ha
  have HNA := Lib.hid hna
  clear h hm0 hv hna ha HS
  generalize hP : S.part = P at *
  generalize hg1 : P.1.get 2 = g1 at *
  generalize hg2 : g1.2.get 4 = g2 at *
  generalize hg3 : g2.2.qid = q at *
  generalize hg4 : q.2.get 4 = g4 at *
  generalize hg5 : g4.2.get 4 = g5 at *
  generalize hg6 : g5.2.get 4 = g6 at *
  generalize hg7 : g6.2.get 8 = g7 at *
  generalize hg8 : g7.2.text = x8 at *
  generalize hg9 : x8.2.text = x9 at *
  generalize hg10 : x9.2.text = x10 at *
  generalize hg11 : x10.2.text = x11 at *
  generalize hgF : x11.2.fin = F at *
  have HEQ := Lib.hid (take_eq hP hg1 hg2 hg3 hg4 hg5 hg6 hg7 hg8 hg9 hg10 hg11 hgF)
  have HFP := Lib.hid (fin_part hP hg1 hg2 hg3 hg4 hg5 hg6 hg7 hg8 hg9 hg10 hg11 hgF)
  have GP := Lib.hid hP
  have G1 := Lib.hid hg1
  have G2 := Lib.hid hg2
  have G3 := Lib.hid hg3
  have G4 := Lib.hid hg4
  have G5 := Lib.hid hg5
  have G6 := Lib.hid hg6
  have G7 := Lib.hid hg7
  have G8 := Lib.hid hg8
  have G9 := Lib.hid hg9
  have G10 := Lib.hid hg10
  have G11 := Lib.hid hg11
  have GF := Lib.hid hgF
  clear hP hg1 hg2 hg3 hg4 hg5 hg6 hg7 hg8 hg9 hg10 hg11 hgF
  go_enter Tryz.func63, Tryz.ntmps63
  go_wp2_with fail
  refine (qpart_any H0.out).mono ?_; rintro e w1 ⟨p, vp, rfl, hp, hps, hvp, ho, hm⟩
  rw [GP.out] at hp ho
  have hps' : w.heap.size + 2 ≤ p := by rw [← HSZ.out]; exact hps
  have hpl : p < w1.heap.size := (Array.getElem?_eq_some_iff.1 hp.cells).1
  have hvp' : ∀ k, vp.ownBlock = some k → (k < w.heap.size ∧ k ≠ a) ∨ (w.heap.size + 2 ≤ k ∧ k < w1.heap.size) := fun k hk => by
    rcases hvp k hk with h | h
    · exact Or.inl ⟨HV.out _ h, fun e => HNA.out (e ▸ h)⟩
    · rw [HSZ.out] at h
      exact Or.inr h
  have A0 : Hid (TkS 142 zeroV 35 w a p w.heap.size (w.heap.size + 1) w1.heap.size vb vp P.2 P.1 #[.int .u16 0, .int .u32 0, .int .u8 0, .int .u32 0, .int .u64 0, .int .u32 0, .int .u32 0, .int .u32 0, .int .u64 0, .string ⟨#[]⟩, .string ⟨#[]⟩, .string ⟨#[]⟩, .string ⟨#[]⟩] (w1.alloc (.cells zeroV 35))) := by
    have hms := (Mods.refl [] w1).alloc (.cells zeroV 35)
    have hha := HA.out
    refine Lib.hid ⟨fun _ => ho.mods hms (by simp) (by simp), hp.mods hms (by simp) (by simp), (M0.out.trans hm (fun b hb => Or.inl hb)).trans hms (by simp), ?_, ?_, heap_alloc_new w1 _⟩
    · exact hms.heap (hm.heap B0.out (by simp; omega)) (by simp)
    · exact hms.heap (hm.heap B1.out (by simp; omega)) (by simp)
  have HN : Hid (TkN w a p w.heap.size (w.heap.size + 1) w1.heap.size vb vp) := by
    have hha := HA.out
    refine Lib.hid ⟨fun e => by have := HV.out _ e; omega, Or.inl (by omega), ⟨by omega, by omega, by omega, fun e => by have := HV.out _ e; omega, fun e => by have := hvp' _ e; omega⟩, ⟨by omega, by omega, by omega, fun e => by have := HV.out _ e; omega, fun e => by have := hvp' _ e; omega⟩, ⟨by omega, by omega, by omega, fun e => by have := HV.out _ e; omega, fun e => by have := hvp' _ e; omega⟩, by omega, by omega⟩
  have HAP : Hid (a ≠ p) := Lib.hid (by have := HA.out; omega)
  have HVA : Hid (vp.ownBlock ≠ some a) := Lib.hid (fun e => by have := hvp' _ e; have := HA.out; omega)
  have HVP : Hid (∀ k, vp.ownBlock = some k → k < w1.heap.size) := Lib.hid (fun k hk => by have := hvp' _ hk; omega)
  unfold zeroV at A0
  clear hp ho hm hvp hvp' hps hps' hpl B0 B1 M0 H0 HSZ HV HNA
  go_wp2_with fail
  generalize w1.alloc (.cells #[.int .u16 0, .int .u32 0, .int .u8 0, .int .u32 0, .int .u64 0, .int .u32 0, .int .u32 0, .int .u32 0, .int .u64 0, .string ⟨#[]⟩, .string ⟨#[]⟩, .string ⟨#[]⟩, .string ⟨#[]⟩] 35) = z0 at *
  generalize w1.heap.size = bs at *
  generalize w.heap.size = b0 at *
  refine (qu16_any A0.out.part).mono ?_; rintro e v1 ⟨rfl, hp⟩
  rw [G1.out] at hp ⊢
  have hA := A0.out.next HN.out hp
  have c0 : v1.cell? ⟨bs, 0, none⟩ = some (.int .u16 0) := by rw [cell_of_row _ _ _ _ _ _ hA.row]; rfl
  have f0 : v1.frozen? ⟨bs, 0, none⟩ = false := frozen_of_row _ _ _ _ _ hA.row
  have A1 : Hid (TkS 142 #[.int .u16 0, .int .u32 0, .int .u8 0, .int .u32 0, .int .u64 0, .int .u32 0, .int .u32 0, .int .u32 0, .int .u64 0, .string ⟨#[]⟩, .string ⟨#[]⟩, .string ⟨#[]⟩, .string ⟨#[]⟩] 35 w a p b0 (b0 + 1) bs vb vp P.2 g1.2 #[.int .u16 (g1.1 : Int), .int .u32 0, .int .u8 0, .int .u32 0, .int .u64 0, .int .u32 0, .int .u32 0, .int .u32 0, .int .u64 0, .string ⟨#[]⟩, .string ⟨#[]⟩, .string ⟨#[]⟩, .string ⟨#[]⟩] _) := Lib.hid (hA.set HN.out 0 (.int .u16 (g1.1 : Int)))
  clear hp hA A0
  go_wp2_with fail
  clear c0 f0
  generalize (v1.setCell ⟨bs, 0, none⟩ (.int .u16 (g1.1 : Int))) = z1 at *
  refine (qu32_any A1.out.part).mono ?_; rintro e v2 ⟨rfl, hp⟩
  rw [G2.out] at hp ⊢
  have hA := A1.out.next HN.out hp
  have c1 : v2.cell? ⟨bs, 1, none⟩ = some (.int .u32 0) := by rw [cell_of_row _ _ _ _ _ _ hA.row]; rfl
  have f1 : v2.frozen? ⟨bs, 1, none⟩ = false := frozen_of_row _ _ _ _ _ hA.row
  have A2 : Hid (TkS 142 #[.int .u16 0, .int .u32 0, .int .u8 0, .int .u32 0, .int .u64 0, .int .u32 0, .int .u32 0, .int .u32 0, .int .u64 0, .string ⟨#[]⟩, .string ⟨#[]⟩, .string ⟨#[]⟩, .string ⟨#[]⟩] 35 w a p b0 (b0 + 1) bs vb vp P.2 g2.2 #[.int .u16 (g1.1 : Int), .int .u32 (g2.1 : Int), .int .u8 0, .int .u32 0, .int .u64 0, .int .u32 0, .int .u32 0, .int .u32 0, .int .u64 0, .string ⟨#[]⟩, .string ⟨#[]⟩, .string ⟨#[]⟩, .string ⟨#[]⟩] _) := Lib.hid (hA.set HN.out 1 (.int .u32 (g2.1 : Int)))
  clear hp hA A1
  go_wp2_with fail
  clear c1 f1
  generalize (v2.setCell ⟨bs, 1, none⟩ (.int .u32 (g2.1 : Int))) = z2 at *
  have HV2 : Hid (∀ k, vp.ownBlock = some k → k < z2.heap.size) := Lib.hid (fun k hk => Nat.lt_trans (HVP.out k hk) (Array.getElem?_eq_some_iff.1 A2.out.row).1)
  refine (rtakeQid_any A2.out.part HV2.out).mono ?_; rintro e v3 ⟨rfl, hp⟩
  rw [G3.out] at hp ⊢
  have hA := A2.out.next HN.out hp
  unfold qidV
  have c2 : v3.cell? ⟨bs, 2, none⟩ = some (.int .u8 0) := by rw [cell_of_row _ _ _ _ _ _ hA.row]; rfl
  have f2 : v3.frozen? ⟨bs, 2, none⟩ = false := frozen_of_row _ _ _ _ _ hA.row
  have c3 : v3.cell? ⟨bs, 3, none⟩ = some (.int .u32 0) := by rw [cell_of_row _ _ _ _ _ _ hA.row]; rfl
  have f3 : v3.frozen? ⟨bs, 3, none⟩ = false := frozen_of_row _ _ _ _ _ hA.row
  have c4 : v3.cell? ⟨bs, 4, none⟩ = some (.int .u64 0) := by rw [cell_of_row _ _ _ _ _ _ hA.row]; rfl
  have f4 : v3.frozen? ⟨bs, 4, none⟩ = false := frozen_of_row _ _ _ _ _ hA.row
  have A3 : Hid (TkS 142 #[.int .u16 0, .int .u32 0, .int .u8 0, .int .u32 0, .int .u64 0, .int .u32 0, .int .u32 0, .int .u32 0, .int .u64 0, .string ⟨#[]⟩, .string ⟨#[]⟩, .string ⟨#[]⟩, .string ⟨#[]⟩] 35 w a p b0 (b0 + 1) bs vb vp P.2 q.2 #[.int .u16 (g1.1 : Int), .int .u32 (g2.1 : Int), .int .u8 (q.1.kind : Int), .int .u32 (q.1.vers : Int), .int .u64 (q.1.path : Int), .int .u32 0, .int .u32 0, .int .u32 0, .int .u64 0, .string ⟨#[]⟩, .string ⟨#[]⟩, .string ⟨#[]⟩, .string ⟨#[]⟩] _) := Lib.hid (((hA.set HN.out 2 (.int .u8 (q.1.kind : Int))).set HN.out 3 (.int .u32 (q.1.vers : Int))).set HN.out 4 (.int .u64 (q.1.path : Int)))
  clear hp hA A2
  go_wp2_with fail
  clear c2 f2 c3 f3 c4 f4
  generalize (((v3.setCell ⟨bs, 2, none⟩ (.int .u8 (q.1.kind : Int))).setCell ⟨bs, 3, none⟩ (.int .u32 (q.1.vers : Int))).setCell ⟨bs, 4, none⟩ (.int .u64 (q.1.path : Int))) = z3 at *
  refine (qu32_any A3.out.part).mono ?_; rintro e v4 ⟨rfl, hp⟩
  rw [G4.out] at hp ⊢
  have hA := A3.out.next HN.out hp
  have c5 : v4.cell? ⟨bs, 5, none⟩ = some (.int .u32 0) := by rw [cell_of_row _ _ _ _ _ _ hA.row]; rfl
  have f5 : v4.frozen? ⟨bs, 5, none⟩ = false := frozen_of_row _ _ _ _ _ hA.row
  have A4 : Hid (TkS 142 #[.int .u16 0, .int .u32 0, .int .u8 0, .int .u32 0, .int .u64 0, .int .u32 0, .int .u32 0, .int .u32 0, .int .u64 0, .string ⟨#[]⟩, .string ⟨#[]⟩, .string ⟨#[]⟩, .string ⟨#[]⟩] 35 w a p b0 (b0 + 1) bs vb vp P.2 g4.2 #[.int .u16 (g1.1 : Int), .int .u32 (g2.1 : Int), .int .u8 (q.1.kind : Int), .int .u32 (q.1.vers : Int), .int .u64 (q.1.path : Int), .int .u32 (g4.1 : Int), .int .u32 0, .int .u32 0, .int .u64 0, .string ⟨#[]⟩, .string ⟨#[]⟩, .string ⟨#[]⟩, .string ⟨#[]⟩] _) := Lib.hid (hA.set HN.out 5 (.int .u32 (g4.1 : Int)))
  clear hp hA A3
  go_wp2_with fail
  clear c5 f5
  generalize (v4.setCell ⟨bs, 5, none⟩ (.int .u32 (g4.1 : Int))) = z4 at *
  refine (qu32_any A4.out.part).mono ?_; rintro e v5 ⟨rfl, hp⟩
  rw [G5.out] at hp ⊢
  have hA := A4.out.next HN.out hp
  have c6 : v5.cell? ⟨bs, 6, none⟩ = some (.int .u32 0) := by rw [cell_of_row _ _ _ _ _ _ hA.row]; rfl
  have f6 : v5.frozen? ⟨bs, 6, none⟩ = false := frozen_of_row _ _ _ _ _ hA.row
  have A5 : Hid (TkS 142 #[.int .u16 0, .int .u32 0, .int .u8 0, .int .u32 0, .int .u64 0, .int .u32 0, .int .u32 0, .int .u32 0, .int .u64 0, .string ⟨#[]⟩, .string ⟨#[]⟩, .string ⟨#[]⟩, .string ⟨#[]⟩] 35 w a p b0 (b0 + 1) bs vb vp P.2 g5.2 #[.int .u16 (g1.1 : Int), .int .u32 (g2.1 : Int), .int .u8 (q.1.kind : Int), .int .u32 (q.1.vers : Int), .int .u64 (q.1.path : Int), .int .u32 (g4.1 : Int), .int .u32 (g5.1 : Int), .int .u32 0, .int .u64 0, .string ⟨#[]⟩, .string ⟨#[]⟩, .string ⟨#[]⟩, .string ⟨#[]⟩] _) := Lib.hid (hA.set HN.out 6 (.int .u32 (g5.1 : Int)))
  clear hp hA A4
  go_wp2_with fail
  clear c6 f6
  generalize (v5.setCell ⟨bs, 6, none⟩ (.int .u32 (g5.1 : Int))) = z5 at *
  refine (qu32_any A5.out.part).mono ?_; rintro e v6 ⟨rfl, hp⟩
  rw [G6.out] at hp ⊢
  have hA := A5.out.next HN.out hp
  have c7 : v6.cell? ⟨bs, 7, none⟩ = some (.int .u32 0) := by rw [cell_of_row _ _ _ _ _ _ hA.row]; rfl
  have f7 : v6.frozen? ⟨bs, 7, none⟩ = false := frozen_of_row _ _ _ _ _ hA.row
  have A6 : Hid (TkS 142 #[.int .u16 0, .int .u32 0, .int .u8 0, .int .u32 0, .int .u64 0, .int .u32 0, .int .u32 0, .int .u32 0, .int .u64 0, .string ⟨#[]⟩, .string ⟨#[]⟩, .string ⟨#[]⟩, .string ⟨#[]⟩] 35 w a p b0 (b0 + 1) bs vb vp P.2 g6.2 #[.int .u16 (g1.1 : Int), .int .u32 (g2.1 : Int), .int .u8 (q.1.kind : Int), .int .u32 (q.1.vers : Int), .int .u64 (q.1.path : Int), .int .u32 (g4.1 : Int), .int .u32 (g5.1 : Int), .int .u32 (g6.1 : Int), .int .u64 0, .string ⟨#[]⟩, .string ⟨#[]⟩, .string ⟨#[]⟩, .string ⟨#[]⟩] _) := Lib.hid (hA.set HN.out 7 (.int .u32 (g6.1 : Int)))
  clear hp hA A5
  go_wp2_with fail
  clear c7 f7
  generalize (v6.setCell ⟨bs, 7, none⟩ (.int .u32 (g6.1 : Int))) = z6 at *
  refine (qu64_any A6.out.part).mono ?_; rintro e v7 ⟨rfl, hp⟩
  rw [G7.out] at hp ⊢
  have hA := A6.out.next HN.out hp
  have c8 : v7.cell? ⟨bs, 8, none⟩ = some (.int .u64 0) := by rw [cell_of_row _ _ _ _ _ _ hA.row]; rfl
  have f8 : v7.frozen? ⟨bs, 8, none⟩ = false := frozen_of_row _ _ _ _ _ hA.row
  have A7 : Hid (TkS 142 #[.int .u16 0, .int .u32 0, .int .u8 0, .int .u32 0, .int .u64 0, .int .u32 0, .int .u32 0, .int .u32 0, .int .u64 0, .string ⟨#[]⟩, .string ⟨#[]⟩, .string ⟨#[]⟩, .string ⟨#[]⟩] 35 w a p b0 (b0 + 1) bs vb vp P.2 g7.2 #[.int .u16 (g1.1 : Int), .int .u32 (g2.1 : Int), .int .u8 (q.1.kind : Int), .int .u32 (q.1.vers : Int), .int .u64 (q.1.path : Int), .int .u32 (g4.1 : Int), .int .u32 (g5.1 : Int), .int .u32 (g6.1 : Int), .int .u64 (g7.1 : Int), .string ⟨#[]⟩, .string ⟨#[]⟩, .string ⟨#[]⟩, .string ⟨#[]⟩] _) := Lib.hid (hA.set HN.out 8 (.int .u64 (g7.1 : Int)))
  clear hp hA A6
  go_wp2_with fail
  clear c8 f8
  generalize (v7.setCell ⟨bs, 8, none⟩ (.int .u64 (g7.1 : Int))) = z7 at *
  refine (qtext_any A7.out.part).mono ?_; rintro e v8 ⟨rfl, hp⟩
  rw [G8.out] at hp ⊢
  have hA := A7.out.next HN.out hp
  have c9 : v8.cell? ⟨bs, 9, none⟩ = some (.string ⟨#[]⟩) := by rw [cell_of_row _ _ _ _ _ _ hA.row]; rfl
  have f9 : v8.frozen? ⟨bs, 9, none⟩ = false := frozen_of_row _ _ _ _ _ hA.row
  have A8 : Hid (TkS 142 #[.int .u16 0, .int .u32 0, .int .u8 0, .int .u32 0, .int .u64 0, .int .u32 0, .int .u32 0, .int .u32 0, .int .u64 0, .string ⟨#[]⟩, .string ⟨#[]⟩, .string ⟨#[]⟩, .string ⟨#[]⟩] 35 w a p b0 (b0 + 1) bs vb vp P.2 x8.2 #[.int .u16 (g1.1 : Int), .int .u32 (g2.1 : Int), .int .u8 (q.1.kind : Int), .int .u32 (q.1.vers : Int), .int .u64 (q.1.path : Int), .int .u32 (g4.1 : Int), .int .u32 (g5.1 : Int), .int .u32 (g6.1 : Int), .int .u64 (g7.1 : Int), .string ⟨x8.1.toArray⟩, .string ⟨#[]⟩, .string ⟨#[]⟩, .string ⟨#[]⟩] _) := Lib.hid (hA.set HN.out 9 (.string ⟨x8.1.toArray⟩))
  clear hp hA A7
  go_wp2_with fail
  clear c9 f9
  generalize (v8.setCell ⟨bs, 9, none⟩ (.string ⟨x8.1.toArray⟩)) = z8 at *
  refine (qtext_any A8.out.part).mono ?_; rintro e v9 ⟨rfl, hp⟩
  rw [G9.out] at hp ⊢
  have hA := A8.out.next HN.out hp
  have c10 : v9.cell? ⟨bs, 10, none⟩ = some (.string ⟨#[]⟩) := by rw [cell_of_row _ _ _ _ _ _ hA.row]; rfl
  have f10 : v9.frozen? ⟨bs, 10, none⟩ = false := frozen_of_row _ _ _ _ _ hA.row
  have A9 : Hid (TkS 142 #[.int .u16 0, .int .u32 0, .int .u8 0, .int .u32 0, .int .u64 0, .int .u32 0, .int .u32 0, .int .u32 0, .int .u64 0, .string ⟨#[]⟩, .string ⟨#[]⟩, .string ⟨#[]⟩, .string ⟨#[]⟩] 35 w a p b0 (b0 + 1) bs vb vp P.2 x9.2 #[.int .u16 (g1.1 : Int), .int .u32 (g2.1 : Int), .int .u8 (q.1.kind : Int), .int .u32 (q.1.vers : Int), .int .u64 (q.1.path : Int), .int .u32 (g4.1 : Int), .int .u32 (g5.1 : Int), .int .u32 (g6.1 : Int), .int .u64 (g7.1 : Int), .string ⟨x8.1.toArray⟩, .string ⟨x9.1.toArray⟩, .string ⟨#[]⟩, .string ⟨#[]⟩] _) := Lib.hid (hA.set HN.out 10 (.string ⟨x9.1.toArray⟩))
  clear hp hA A8
  go_wp2_with fail
  clear c10 f10
  generalize (v9.setCell ⟨bs, 10, none⟩ (.string ⟨x9.1.toArray⟩)) = z9 at *
  refine (qtext_any A9.out.part).mono ?_; rintro e v10 ⟨rfl, hp⟩
  rw [G10.out] at hp ⊢
  have hA := A9.out.next HN.out hp
  have c11 : v10.cell? ⟨bs, 11, none⟩ = some (.string ⟨#[]⟩) := by rw [cell_of_row _ _ _ _ _ _ hA.row]; rfl
  have f11 : v10.frozen? ⟨bs, 11, none⟩ = false := frozen_of_row _ _ _ _ _ hA.row
  have A10 : Hid (TkS 142 #[.int .u16 0, .int .u32 0, .int .u8 0, .int .u32 0, .int .u64 0, .int .u32 0, .int .u32 0, .int .u32 0, .int .u64 0, .string ⟨#[]⟩, .string ⟨#[]⟩, .string ⟨#[]⟩, .string ⟨#[]⟩] 35 w a p b0 (b0 + 1) bs vb vp P.2 x10.2 #[.int .u16 (g1.1 : Int), .int .u32 (g2.1 : Int), .int .u8 (q.1.kind : Int), .int .u32 (q.1.vers : Int), .int .u64 (q.1.path : Int), .int .u32 (g4.1 : Int), .int .u32 (g5.1 : Int), .int .u32 (g6.1 : Int), .int .u64 (g7.1 : Int), .string ⟨x8.1.toArray⟩, .string ⟨x9.1.toArray⟩, .string ⟨x10.1.toArray⟩, .string ⟨#[]⟩] _) := Lib.hid (hA.set HN.out 11 (.string ⟨x10.1.toArray⟩))
  clear hp hA A9
  go_wp2_with fail
  clear c11 f11
  generalize (v10.setCell ⟨bs, 11, none⟩ (.string ⟨x10.1.toArray⟩)) = z10 at *
  refine (qtext_any A10.out.part).mono ?_; rintro e v11 ⟨rfl, hp⟩
  rw [G11.out] at hp ⊢
  have hA := A10.out.next HN.out hp
  have c12 : v11.cell? ⟨bs, 12, none⟩ = some (.string ⟨#[]⟩) := by rw [cell_of_row _ _ _ _ _ _ hA.row]; rfl
  have f12 : v11.frozen? ⟨bs, 12, none⟩ = false := frozen_of_row _ _ _ _ _ hA.row
  have A11 : Hid (TkS 142 #[.int .u16 0, .int .u32 0, .int .u8 0, .int .u32 0, .int .u64 0, .int .u32 0, .int .u32 0, .int .u32 0, .int .u64 0, .string ⟨#[]⟩, .string ⟨#[]⟩, .string ⟨#[]⟩, .string ⟨#[]⟩] 35 w a p b0 (b0 + 1) bs vb vp P.2 x11.2 #[.int .u16 (g1.1 : Int), .int .u32 (g2.1 : Int), .int .u8 (q.1.kind : Int), .int .u32 (q.1.vers : Int), .int .u64 (q.1.path : Int), .int .u32 (g4.1 : Int), .int .u32 (g5.1 : Int), .int .u32 (g6.1 : Int), .int .u64 (g7.1 : Int), .string ⟨x8.1.toArray⟩, .string ⟨x9.1.toArray⟩, .string ⟨x10.1.toArray⟩, .string ⟨x11.1.toArray⟩] _) := Lib.hid (hA.set HN.out 12 (.string ⟨x11.1.toArray⟩))
  clear hp hA A10
  go_wp2_with fail
  clear c12 f12
  generalize (v11.setCell ⟨bs, 12, none⟩ (.string ⟨x11.1.toArray⟩)) = z11 at *
  refine (qend_any A11.out.part).mono ?_; rintro e v12 ⟨rfl, hp⟩
  rw [GF.out] at hp
  have A12 := Lib.hid (A11.out.next HN.out hp)
  clear hp A11
  go_wp2_with fail
  refine (qerr_any A12.out.part).mono ?_; rintro e v13 ⟨rfl, k, rfl⟩
  have A13 := Lib.hid (A12.out.drewN k)
  generalize v12.drewN k = v13 at *
  clear A12
  go_wp2_with fail
  refine (qfail_any (A13.out.out HAP.out) F.err A13.out.part.wf.lo A13.out.part.wf.hi).mono ?_; rintro e v14 ⟨rfl, hp⟩
  have A14 := Lib.hid (A13.out.fail HN.out HAP.out HVA.out hp)
  clear hp A13
  go_wp2_with fail
  refine (qerr_any (A14.out.out HAP.out)).mono ?_; rintro e v15 ⟨rfl, k, rfl⟩
  have A15 := Lib.hid (A14.out.drewN k)
  generalize v14.drewN k = v15 at *
  clear A14
  by_cases he : F.err = 0
  · have h0 := HFP.out he
    have hw : P.2.wrong F.err 0 = P.2 := by rw [he]; exact wrong_zero _ _
    rw [hw] at A15 ⊢
    have hb : (P.2.err != 0) = false := by rw [h0]; rfl
    have HE := Lib.hid he
    have HR : Hid (RPost 142 w a vb P.2 v15) := Lib.hid ⟨A15.out.out HAP.out, A15.out.mods⟩
    clear he hw h0
    have c0 : v15.cell? ⟨bs, 0, none⟩ = some (.int .u16 (g1.1 : Int)) := by rw [cell_of_row _ _ _ _ _ _ A15.out.row]; rfl
    have c1 : v15.cell? ⟨bs, 1, none⟩ = some (.int .u32 (g2.1 : Int)) := by rw [cell_of_row _ _ _ _ _ _ A15.out.row]; rfl
    have c2 : v15.cell? ⟨bs, 2, none⟩ = some (.int .u8 (q.1.kind : Int)) := by rw [cell_of_row _ _ _ _ _ _ A15.out.row]; rfl
    have c3 : v15.cell? ⟨bs, 3, none⟩ = some (.int .u32 (q.1.vers : Int)) := by rw [cell_of_row _ _ _ _ _ _ A15.out.row]; rfl
    have c4 : v15.cell? ⟨bs, 4, none⟩ = some (.int .u64 (q.1.path : Int)) := by rw [cell_of_row _ _ _ _ _ _ A15.out.row]; rfl
    have c5 : v15.cell? ⟨bs, 5, none⟩ = some (.int .u32 (g4.1 : Int)) := by rw [cell_of_row _ _ _ _ _ _ A15.out.row]; rfl
    have c6 : v15.cell? ⟨bs, 6, none⟩ = some (.int .u32 (g5.1 : Int)) := by rw [cell_of_row _ _ _ _ _ _ A15.out.row]; rfl
    have c7 : v15.cell? ⟨bs, 7, none⟩ = some (.int .u32 (g6.1 : Int)) := by rw [cell_of_row _ _ _ _ _ _ A15.out.row]; rfl
    have c8 : v15.cell? ⟨bs, 8, none⟩ = some (.int .u64 (g7.1 : Int)) := by rw [cell_of_row _ _ _ _ _ _ A15.out.row]; rfl
    have c9 : v15.cell? ⟨bs, 9, none⟩ = some (.string ⟨x8.1.toArray⟩) := by rw [cell_of_row _ _ _ _ _ _ A15.out.row]; rfl
    have c10 : v15.cell? ⟨bs, 10, none⟩ = some (.string ⟨x9.1.toArray⟩) := by rw [cell_of_row _ _ _ _ _ _ A15.out.row]; rfl
    have c11 : v15.cell? ⟨bs, 11, none⟩ = some (.string ⟨x10.1.toArray⟩) := by rw [cell_of_row _ _ _ _ _ _ A15.out.row]; rfl
    have c12 : v15.cell? ⟨bs, 12, none⟩ = some (.string ⟨x11.1.toArray⟩) := by rw [cell_of_row _ _ _ _ _ _ A15.out.row]; rfl
    have d0 : v15.cell? ⟨b0, 0, none⟩ = some (.int .u16 0) := by rw [cell_of_row _ _ _ _ _ _ A15.out.res]; rfl
    have k0 : v15.frozen? ⟨b0, 0, none⟩ = false := frozen_of_row _ _ _ _ _ A15.out.res
    have d1 : v15.cell? ⟨b0, 1, none⟩ = some (.int .u32 0) := by rw [cell_of_row _ _ _ _ _ _ A15.out.res]; rfl
    have k1 : v15.frozen? ⟨b0, 1, none⟩ = false := frozen_of_row _ _ _ _ _ A15.out.res
    have d2 : v15.cell? ⟨b0, 2, none⟩ = some (.int .u8 0) := by rw [cell_of_row _ _ _ _ _ _ A15.out.res]; rfl
    have k2 : v15.frozen? ⟨b0, 2, none⟩ = false := frozen_of_row _ _ _ _ _ A15.out.res
    have d3 : v15.cell? ⟨b0, 3, none⟩ = some (.int .u32 0) := by rw [cell_of_row _ _ _ _ _ _ A15.out.res]; rfl
    have k3 : v15.frozen? ⟨b0, 3, none⟩ = false := frozen_of_row _ _ _ _ _ A15.out.res
    have d4 : v15.cell? ⟨b0, 4, none⟩ = some (.int .u64 0) := by rw [cell_of_row _ _ _ _ _ _ A15.out.res]; rfl
    have k4 : v15.frozen? ⟨b0, 4, none⟩ = false := frozen_of_row _ _ _ _ _ A15.out.res
    have d5 : v15.cell? ⟨b0, 5, none⟩ = some (.int .u32 0) := by rw [cell_of_row _ _ _ _ _ _ A15.out.res]; rfl
    have k5 : v15.frozen? ⟨b0, 5, none⟩ = false := frozen_of_row _ _ _ _ _ A15.out.res
    have d6 : v15.cell? ⟨b0, 6, none⟩ = some (.int .u32 0) := by rw [cell_of_row _ _ _ _ _ _ A15.out.res]; rfl
    have k6 : v15.frozen? ⟨b0, 6, none⟩ = false := frozen_of_row _ _ _ _ _ A15.out.res
    have d7 : v15.cell? ⟨b0, 7, none⟩ = some (.int .u32 0) := by rw [cell_of_row _ _ _ _ _ _ A15.out.res]; rfl
    have k7 : v15.frozen? ⟨b0, 7, none⟩ = false := frozen_of_row _ _ _ _ _ A15.out.res
    have d8 : v15.cell? ⟨b0, 8, none⟩ = some (.int .u64 0) := by rw [cell_of_row _ _ _ _ _ _ A15.out.res]; rfl
    have k8 : v15.frozen? ⟨b0, 8, none⟩ = false := frozen_of_row _ _ _ _ _ A15.out.res
    have d9 : v15.cell? ⟨b0, 9, none⟩ = some (.string ⟨#[]⟩) := by rw [cell_of_row _ _ _ _ _ _ A15.out.res]; rfl
    have k9 : v15.frozen? ⟨b0, 9, none⟩ = false := frozen_of_row _ _ _ _ _ A15.out.res
    have d10 : v15.cell? ⟨b0, 10, none⟩ = some (.string ⟨#[]⟩) := by rw [cell_of_row _ _ _ _ _ _ A15.out.res]; rfl
    have k10 : v15.frozen? ⟨b0, 10, none⟩ = false := frozen_of_row _ _ _ _ _ A15.out.res
    have d11 : v15.cell? ⟨b0, 11, none⟩ = some (.string ⟨#[]⟩) := by rw [cell_of_row _ _ _ _ _ _ A15.out.res]; rfl
    have k11 : v15.frozen? ⟨b0, 11, none⟩ = false := frozen_of_row _ _ _ _ _ A15.out.res
    have d12 : v15.cell? ⟨b0, 12, none⟩ = some (.string ⟨#[]⟩) := by rw [cell_of_row _ _ _ _ _ _ A15.out.res]; rfl
    have k12 : v15.frozen? ⟨b0, 12, none⟩ = false := frozen_of_row _ _ _ _ _ A15.out.res
    go_wp2_with fail
    refine bodyPost_ret (v := .agg #[.int .u16 (g1.1 : Int), .int .u32 (g2.1 : Int), .int .u8 (q.1.kind : Int), .int .u32 (q.1.vers : Int), .int .u64 (q.1.path : Int), .int .u32 (g4.1 : Int), .int .u32 (g5.1 : Int), .int .u32 (g6.1 : Int), .int .u64 (g7.1 : Int), .string ⟨x8.1.toArray⟩, .string ⟨x9.1.toArray⟩, .string ⟨x10.1.toArray⟩, .string ⟨x11.1.toArray⟩]) (by simp [results, Tryz.results63, go_sem, d0, d1, d2, d3, d4, d5, d6, d7, d8, d9, d10, d11, d12]) rfl ?_
    have hM := ((((((((((((((Mods.refl [b0] v15).setCell (p := ⟨b0, 0, none⟩) (Or.inl (by simp)) (.int .u16 (g1.1 : Int))).setCell (p := ⟨b0, 1, none⟩) (Or.inl (by simp)) (.int .u32 (g2.1 : Int))).setCell (p := ⟨b0, 2, none⟩) (Or.inl (by simp)) (.int .u8 (q.1.kind : Int))).setCell (p := ⟨b0, 3, none⟩) (Or.inl (by simp)) (.int .u32 (q.1.vers : Int))).setCell (p := ⟨b0, 4, none⟩) (Or.inl (by simp)) (.int .u64 (q.1.path : Int))).setCell (p := ⟨b0, 5, none⟩) (Or.inl (by simp)) (.int .u32 (g4.1 : Int))).setCell (p := ⟨b0, 6, none⟩) (Or.inl (by simp)) (.int .u32 (g5.1 : Int))).setCell (p := ⟨b0, 7, none⟩) (Or.inl (by simp)) (.int .u32 (g6.1 : Int))).setCell (p := ⟨b0, 8, none⟩) (Or.inl (by simp)) (.int .u64 (g7.1 : Int))).setCell (p := ⟨b0, 9, none⟩) (Or.inl (by simp)) (.string ⟨x8.1.toArray⟩)).setCell (p := ⟨b0, 10, none⟩) (Or.inl (by simp)) (.string ⟨x9.1.toArray⟩)).setCell (p := ⟨b0, 11, none⟩) (Or.inl (by simp)) (.string ⟨x10.1.toArray⟩)).setCell (p := ⟨b0, 12, none⟩) (Or.inl (by simp)) (.string ⟨x11.1.toArray⟩))
    rw [HEQ.out, if_neg (by simpa using HE.out)]
    exact ⟨rfl, HR.out.1.mods hM (by simpa using fun e => HN.out.B0.1 e.symm) (fun k hk hm => HN.out.B0.2.2.2.1 (by simp at hm; subst hm; exact hk)), HR.out.2.trans hM (fun b hb => by simp at hb; subst hb; exact Or.inr HN.out.B0.2.2.1)⟩
  · have h0 := RSt.wrong_err P.2 (e := F.err) 0 he
    have hb : ((P.2.wrong F.err 0).err != 0) = true := by simpa using h0
    have HE := Lib.hid he
    have HR : Hid (RPost 142 w a vb (P.2.wrong F.err 0) v15) := Lib.hid ⟨A15.out.out HAP.out, A15.out.mods⟩
    clear he h0
    have c0 : v15.cell? ⟨(b0 + 1), 0, none⟩ = some (.int .u16 0) := by rw [cell_of_row _ _ _ _ _ _ A15.out.zer]; rfl
    have c1 : v15.cell? ⟨(b0 + 1), 1, none⟩ = some (.int .u32 0) := by rw [cell_of_row _ _ _ _ _ _ A15.out.zer]; rfl
    have c2 : v15.cell? ⟨(b0 + 1), 2, none⟩ = some (.int .u8 0) := by rw [cell_of_row _ _ _ _ _ _ A15.out.zer]; rfl
    have c3 : v15.cell? ⟨(b0 + 1), 3, none⟩ = some (.int .u32 0) := by rw [cell_of_row _ _ _ _ _ _ A15.out.zer]; rfl
    have c4 : v15.cell? ⟨(b0 + 1), 4, none⟩ = some (.int .u64 0) := by rw [cell_of_row _ _ _ _ _ _ A15.out.zer]; rfl
    have c5 : v15.cell? ⟨(b0 + 1), 5, none⟩ = some (.int .u32 0) := by rw [cell_of_row _ _ _ _ _ _ A15.out.zer]; rfl
    have c6 : v15.cell? ⟨(b0 + 1), 6, none⟩ = some (.int .u32 0) := by rw [cell_of_row _ _ _ _ _ _ A15.out.zer]; rfl
    have c7 : v15.cell? ⟨(b0 + 1), 7, none⟩ = some (.int .u32 0) := by rw [cell_of_row _ _ _ _ _ _ A15.out.zer]; rfl
    have c8 : v15.cell? ⟨(b0 + 1), 8, none⟩ = some (.int .u64 0) := by rw [cell_of_row _ _ _ _ _ _ A15.out.zer]; rfl
    have c9 : v15.cell? ⟨(b0 + 1), 9, none⟩ = some (.string ⟨#[]⟩) := by rw [cell_of_row _ _ _ _ _ _ A15.out.zer]; rfl
    have c10 : v15.cell? ⟨(b0 + 1), 10, none⟩ = some (.string ⟨#[]⟩) := by rw [cell_of_row _ _ _ _ _ _ A15.out.zer]; rfl
    have c11 : v15.cell? ⟨(b0 + 1), 11, none⟩ = some (.string ⟨#[]⟩) := by rw [cell_of_row _ _ _ _ _ _ A15.out.zer]; rfl
    have c12 : v15.cell? ⟨(b0 + 1), 12, none⟩ = some (.string ⟨#[]⟩) := by rw [cell_of_row _ _ _ _ _ _ A15.out.zer]; rfl
    have d0 : v15.cell? ⟨b0, 0, none⟩ = some (.int .u16 0) := by rw [cell_of_row _ _ _ _ _ _ A15.out.res]; rfl
    have k0 : v15.frozen? ⟨b0, 0, none⟩ = false := frozen_of_row _ _ _ _ _ A15.out.res
    have d1 : v15.cell? ⟨b0, 1, none⟩ = some (.int .u32 0) := by rw [cell_of_row _ _ _ _ _ _ A15.out.res]; rfl
    have k1 : v15.frozen? ⟨b0, 1, none⟩ = false := frozen_of_row _ _ _ _ _ A15.out.res
    have d2 : v15.cell? ⟨b0, 2, none⟩ = some (.int .u8 0) := by rw [cell_of_row _ _ _ _ _ _ A15.out.res]; rfl
    have k2 : v15.frozen? ⟨b0, 2, none⟩ = false := frozen_of_row _ _ _ _ _ A15.out.res
    have d3 : v15.cell? ⟨b0, 3, none⟩ = some (.int .u32 0) := by rw [cell_of_row _ _ _ _ _ _ A15.out.res]; rfl
    have k3 : v15.frozen? ⟨b0, 3, none⟩ = false := frozen_of_row _ _ _ _ _ A15.out.res
    have d4 : v15.cell? ⟨b0, 4, none⟩ = some (.int .u64 0) := by rw [cell_of_row _ _ _ _ _ _ A15.out.res]; rfl
    have k4 : v15.frozen? ⟨b0, 4, none⟩ = false := frozen_of_row _ _ _ _ _ A15.out.res
    have d5 : v15.cell? ⟨b0, 5, none⟩ = some (.int .u32 0) := by rw [cell_of_row _ _ _ _ _ _ A15.out.res]; rfl
    have k5 : v15.frozen? ⟨b0, 5, none⟩ = false := frozen_of_row _ _ _ _ _ A15.out.res
    have d6 : v15.cell? ⟨b0, 6, none⟩ = some (.int .u32 0) := by rw [cell_of_row _ _ _ _ _ _ A15.out.res]; rfl
    have k6 : v15.frozen? ⟨b0, 6, none⟩ = false := frozen_of_row _ _ _ _ _ A15.out.res
    have d7 : v15.cell? ⟨b0, 7, none⟩ = some (.int .u32 0) := by rw [cell_of_row _ _ _ _ _ _ A15.out.res]; rfl
    have k7 : v15.frozen? ⟨b0, 7, none⟩ = false := frozen_of_row _ _ _ _ _ A15.out.res
    have d8 : v15.cell? ⟨b0, 8, none⟩ = some (.int .u64 0) := by rw [cell_of_row _ _ _ _ _ _ A15.out.res]; rfl
    have k8 : v15.frozen? ⟨b0, 8, none⟩ = false := frozen_of_row _ _ _ _ _ A15.out.res
    have d9 : v15.cell? ⟨b0, 9, none⟩ = some (.string ⟨#[]⟩) := by rw [cell_of_row _ _ _ _ _ _ A15.out.res]; rfl
    have k9 : v15.frozen? ⟨b0, 9, none⟩ = false := frozen_of_row _ _ _ _ _ A15.out.res
    have d10 : v15.cell? ⟨b0, 10, none⟩ = some (.string ⟨#[]⟩) := by rw [cell_of_row _ _ _ _ _ _ A15.out.res]; rfl
    have k10 : v15.frozen? ⟨b0, 10, none⟩ = false := frozen_of_row _ _ _ _ _ A15.out.res
    have d11 : v15.cell? ⟨b0, 11, none⟩ = some (.string ⟨#[]⟩) := by rw [cell_of_row _ _ _ _ _ _ A15.out.res]; rfl
    have k11 : v15.frozen? ⟨b0, 11, none⟩ = false := frozen_of_row _ _ _ _ _ A15.out.res
    have d12 : v15.cell? ⟨b0, 12, none⟩ = some (.string ⟨#[]⟩) := by rw [cell_of_row _ _ _ _ _ _ A15.out.res]; rfl
    have k12 : v15.frozen? ⟨b0, 12, none⟩ = false := frozen_of_row _ _ _ _ _ A15.out.res
    go_wp2_with fail
    refine bodyPost_ret (v := .agg #[.int .u16 0, .int .u32 0, .int .u8 0, .int .u32 0, .int .u64 0, .int .u32 0, .int .u32 0, .int .u32 0, .int .u64 0, .string ⟨#[]⟩, .string ⟨#[]⟩, .string ⟨#[]⟩, .string ⟨#[]⟩]) (by simp [results, Tryz.results63, go_sem, d0, d1, d2, d3, d4, d5, d6, d7, d8, d9, d10, d11, d12]) rfl ?_
    have hM := ((((((((((((((Mods.refl [b0] v15).setCell (p := ⟨b0, 0, none⟩) (Or.inl (by simp)) (.int .u16 0)).setCell (p := ⟨b0, 1, none⟩) (Or.inl (by simp)) (.int .u32 0)).setCell (p := ⟨b0, 2, none⟩) (Or.inl (by simp)) (.int .u8 0)).setCell (p := ⟨b0, 3, none⟩) (Or.inl (by simp)) (.int .u32 0)).setCell (p := ⟨b0, 4, none⟩) (Or.inl (by simp)) (.int .u64 0)).setCell (p := ⟨b0, 5, none⟩) (Or.inl (by simp)) (.int .u32 0)).setCell (p := ⟨b0, 6, none⟩) (Or.inl (by simp)) (.int .u32 0)).setCell (p := ⟨b0, 7, none⟩) (Or.inl (by simp)) (.int .u32 0)).setCell (p := ⟨b0, 8, none⟩) (Or.inl (by simp)) (.int .u64 0)).setCell (p := ⟨b0, 9, none⟩) (Or.inl (by simp)) (.string ⟨#[]⟩)).setCell (p := ⟨b0, 10, none⟩) (Or.inl (by simp)) (.string ⟨#[]⟩)).setCell (p := ⟨b0, 11, none⟩) (Or.inl (by simp)) (.string ⟨#[]⟩)).setCell (p := ⟨b0, 12, none⟩) (Or.inl (by simp)) (.string ⟨#[]⟩))
    rw [HEQ.out, if_pos HE.out]
    exact ⟨rfl, HR.out.1.mods hM (by simpa using fun e => HN.out.B0.1 e.symm) (fun k hk hm => HN.out.B0.2.2.2.1 (by simp at hm; subst hm; exact hk)), HR.out.2.trans hM (fun b hb => by simp at hb; subst hb; exact Or.inr HN.out.B0.2.2.1)⟩
end Go.Proofs.YtnpokdbpmnkbjaaGreatDoor
