/- stat.Take. (Printed by wip/bin/gentake.py.) -/
import Derived.Test.YtnpokdbpmnkbjaaGreatDoorSr
namespace Go.Proofs.YtnpokdbpmnkbjaaGreatDoor
open Go.RowKit Me

def zeroV : Array Value := #[.int .u16 0, .int .u32 0, .int .u8 0, .int .u32 0, .int .u64 0, .int .u32 0, .int .u32 0, .int .u32 0, .int .u64 0, .string ⟨#[]⟩, .string ⟨#[]⟩, .string ⟨#[]⟩, .string ⟨#[]⟩]
structure TakeNum (w : World) (a p b0 bs : Nat) (vb vp : Value) : Prop where
  ap : a ≠ p
  a0 : b0 ≠ a
  p0 : b0 ≠ p
  sa : bs ≠ a
  ps : bs ≠ p
  s0 : b0 ≠ bs
  vb0 : vb.ownBlock ≠ some b0
  vbs : vb.ownBlock ≠ some bs
  vbp : vb.ownBlock ≠ some p
  vp0 : vp.ownBlock ≠ some b0
  vps : vp.ownBlock ≠ some bs
  np : w.heap.size ≤ p
  n0 : w.heap.size ≤ b0
  ns : w.heap.size ≤ bs
  two : 2 ≤ w.heap.size
structure TakeAt (w : World) (a p b0 bs : Nat) (vb vp : Value) (R X : RSt) (row : Array Value) (v : World) : Prop where
  out : IsR 140 v a R vb
  part : IsR 140 v p X vp
  mods : Mods [a] w v
  res : v.heap[b0]? = some (.cells zeroV 35 (0, 0))
  row : v.heap[bs]? = some (.cells row 35 (0, 0))
  tabs : Lib.Utf8Tabs 0 1 v
section
variable {w v v' : World} {a p b0 bs : Nat} {vb vp : Value} {R X X' : RSt} {row : Array Value}
theorem TakeAt.next (n : TakeNum w a p b0 bs vb vp) (h : TakeAt w a p b0 bs vb vp R X row v) (hp : RPost 140 v p vp X' v') : TakeAt w a p b0 bs vb vp R X' row v' :=
  ⟨h.out.mods hp.2 (by simpa using n.ap) (fun k hk hm => n.vbp (by simp at hm; subst hm; exact hk)), hp.1, h.mods.trans hp.2 (fun b hb => by simp at hb; subst hb; exact Or.inr n.np),
   hp.2.heap h.res (by simpa using n.p0), hp.2.heap h.row (by simpa using n.ps),
   tabs_heap (fun k hk => hp.2.block k (by have := tabs_two h.tabs; omega) (by have := n.np; have := n.two; simp; omega)) h.tabs⟩
theorem TakeAt.set (n : TakeNum w a p b0 bs vb vp) (h : TakeAt w a p b0 bs vb vp R X row v) (i : Nat) (u : Value) : TakeAt w a p b0 bs vb vp R X (row.setIfInBounds i u) (v.setCell ⟨bs, i, none⟩ u) :=
  ⟨h.out.setNew n.sa n.vbs i u, h.part.setNew n.ps n.vps i u, h.mods.setCell (p := ⟨bs, i, none⟩) (Or.inr n.ns) u,
   (heap_setCell_other v ⟨bs, i, none⟩ b0 u n.s0).trans h.res, heap_setCell_same v bs i row 35 u h.row,
   tabs_heap (fun k hk => heap_setCell_other v ⟨bs, i, none⟩ k u (by have := n.ns; have := n.two; show k ≠ bs; omega)) h.tabs⟩
theorem TakeAt.drewN (h : TakeAt w a p b0 bs vb vp R X row v) (k : Nat) : TakeAt w a p b0 bs vb vp R X row (v.drewN k) :=
  ⟨h.out.drewN k, h.part.drewN k, h.mods.drewN k, h.res, h.row, h.tabs⟩
theorem TakeAt.start (h0 : v.heap[b0]? = some (.cells zeroV 35 (0, 0))) (h1 : IsR 140 v a R vb) (h2 : IsR 140 v p X vp) (hm : Mods [a] w v) (hT : Lib.Utf8Tabs 0 1 v) : TakeAt w a p b0 v.heap.size vb vp R X row (v.alloc (.cells row 35)) :=
  ⟨h1.mods ((Mods.refl [] _).alloc _) (by simp) (by simp), h2.mods ((Mods.refl [] _).alloc _) (by simp) (by simp), hm.alloc _,
   (Go.heap_alloc_old v _ (Array.getElem?_eq_some_iff.1 h0).1).trans h0, heap_alloc_new v _,
   tabs_heap (fun k hk => Go.heap_alloc_old v _ (by have := tabs_two hT; omega)) hT⟩
end
theorem take_eq {S : RSt} {P : RSt × RSt} {g1 g2 : Nat × RSt} {q : QidP × RSt} {g4 g5 g6 g7 : Nat × RSt} {x8 x9 x10 x11 : List UInt8 × RSt} {F : RSt} (hP : S.part = P) (h1 : P.1.get 2 = g1) (h2 : g1.2.get 4 = g2) (h3 : g2.2.qid = q) (h4 : q.2.get 4 = g4) (h5 : g4.2.get 4 = g5) (h6 : g5.2.get 4 = g6) (h7 : g6.2.get 8 = g7)
    (h8 : g7.2.text = x8) (h9 : x8.2.text = x9) (h10 : x9.2.text = x10) (h11 : x10.2.text = x11) (hF : x11.2.fin = F) :
    S.stat = if F.err ≠ 0 then (StatP.zero, P.2.wrong F.err 0) else (⟨g1.1, g2.1, q.1, g4.1, g5.1, g6.1, g7.1, ⟨x8.1.toArray⟩, ⟨x9.1.toArray⟩, ⟨x10.1.toArray⟩, ⟨x11.1.toArray⟩⟩, P.2) := by
  subst hP
  subst h1
  subst h2
  subst h3
  subst h4
  subst h5
  subst h6
  subst h7
  subst h8
  subst h9
  subst h10
  subst h11
  subst hF
  rfl
set_option maxRecDepth 100000 in
set_option maxHeartbeats 2000000 in
theorem take_any {a : Nat} {S : RSt} {vb : Value} {w : World} (h : IsR 140 w a S vb) (hv : ∀ k, vb.ownBlock = some k → k < w.heap.size) (h2a : 2 ≤ a) (hT : Lib.Utf8Tabs 0 1 w) :
    Calls Tryz.prog 62 #[.pointer (some ⟨a, 0, none⟩)] w fun e w' => e = .returned (.agg (statV S.stat.1)) ∧ RPost 140 w a vb S.stat.2 w' := by
  have ha : a < w.heap.size := (Array.getElem?_eq_some_iff.1 h.cells).1
  have hna := h.na
  have H0 := Lib.hid (h.mods ((Mods.refl [] w).alloc (.cells zeroV 35)) (by simp) (by simp))
  have M0 := Lib.hid ((Mods.refl [a] w).alloc (.cells zeroV 35))
  have B0 := Lib.hid (heap_alloc_new w (.cells zeroV 35))
  have h2 := tabs_two hT
  have T0 := Lib.hid (tabs_heap (w := w) (w' := w.alloc (.cells zeroV 35)) (fun k h => Go.heap_alloc_old w _ (by omega)) hT)
  have HV := Lib.hid hv
  have HNA := Lib.hid hna
  clear h hT hv hna
  generalize hP : S.part = P at *
  generalize hg1 : P.1.get 2 = g1 at *
  generalize hg2 : g1.2.get 4 = g2 at *
  generalize hg3 : g2.2.qid = q at *
  generalize hg4 : q.2.get 4 = g4 at *
  generalize hg5 : g4.2.get 4 = g5 at *
  generalize hg6 : g5.2.get 4 = g6 at *
  generalize hg7 : g6.2.get 8 = g7 at *
  generalize hg8 : g7.2.text = x8 at *
  generalize hg9 : x8.2.text = x9 at *
  generalize hg10 : x9.2.text = x10 at *
  generalize hg11 : x10.2.text = x11 at *
  generalize hgF : x11.2.fin = F at *
  have HEQ := Lib.hid (take_eq hP hg1 hg2 hg3 hg4 hg5 hg6 hg7 hg8 hg9 hg10 hg11 hgF)
  have GP := Lib.hid hP
  have G1 := Lib.hid hg1
  have G2 := Lib.hid hg2
  have G3 := Lib.hid hg3
  have G4 := Lib.hid hg4
  have G5 := Lib.hid hg5
  have G6 := Lib.hid hg6
  have G7 := Lib.hid hg7
  have G8 := Lib.hid hg8
  have G9 := Lib.hid hg9
  have G10 := Lib.hid hg10
  have G11 := Lib.hid hg11
  have GF := Lib.hid hgF
  clear hP hg1 hg2 hg3 hg4 hg5 hg6 hg7 hg8 hg9 hg10 hg11 hgF
  go_enter Tryz.func62, Tryz.ntmps62
  go_wp2_with fail
  refine (rpart_any H0.out).mono ?_; rintro e w1 ⟨p, vp, rfl, hp, hps, hvp, ho, hm⟩
  rw [GP.out] at hp ho
  have hps' : w.heap.size + 1 ≤ p := by simpa using hps
  have P1 := Lib.hid hp
  have O1 := Lib.hid ho
  have M1 := Lib.hid (M0.out.trans hm (by simp))
  have B1 := Lib.hid (hm.heap B0.out (by simp; omega))
  have T1 := Lib.hid (tabs_heap (fun k hk => hm.block k (by simp; omega) (by simp; omega)) T0.out)
  have HVP := Lib.hid hvp
  clear hp ho hm hvp hps
  go_wp2_with fail
  refine (ru16_any P1.out).mono ?_; rintro e w2 ⟨rfl, hp⟩
  rw [G1.out] at hp ⊢
  have P2 := Lib.hid hp
  clear hp
  go_wp2_with fail
  refine (ru32_any P2.out.1).mono ?_; rintro e w3 ⟨rfl, hp⟩
  rw [G2.out] at hp ⊢
  have hm3 := P2.out.2.trans hp.2 (fun b hb => Or.inl hb)
  have O3 := Lib.hid (O1.out.mods hm3 (by simp; omega) (fun k hk hm => by simp at hm; subst hm; have := HV.out _ hk; omega))
  have M3 := Lib.hid (M1.out.trans hm3 (fun b hb => by simp at hb; subst hb; exact Or.inr (by omega)))
  have B3 := Lib.hid (hm3.heap B1.out (by simp; omega))
  have T3 := Lib.hid (tabs_heap (fun k hk => hm3.block k (by have := M1.out.size; omega) (by simp; omega)) T1.out)
  have P3 := Lib.hid hp.1
  have hsz : p < w3.heap.size := (Array.getElem?_eq_some_iff.1 hp.1.cells).1
  have hN : TakeNum w a p w.heap.size w3.heap.size vb vp := ⟨by omega, by omega, by omega, by omega, by omega, by omega, fun e => by have := HV.out _ e; omega, fun e => by have := HV.out _ e; omega, fun e => by have := HV.out _ e; omega,
    fun e => by have := HV.out _ (HVP.out _ e); omega, fun e => by have := HV.out _ (HVP.out _ e); omega, by omega, by omega, by omega, by omega⟩
  have N := Lib.hid hN
  clear hp hm3 P1 P2 O1 M1 B1 T1
  have A3 := Lib.hid (TakeAt.start (row := #[.int .u16 (g1.1 : Int), .int .u32 (g2.1 : Int), .int .u8 0, .int .u32 0, .int .u64 0, .int .u32 0, .int .u32 0, .int .u32 0, .int .u64 0, .string ⟨#[]⟩, .string ⟨#[]⟩, .string ⟨#[]⟩, .string ⟨#[]⟩]) B3.out O3.out P3.out M3.out T3.out)
  clear O3 P3 M3 T3 B3 hN
  go_wp2_with fail
  generalize w3.heap.size = bs at *
  refine (takeQid_any A3.out.part (fun k hk => Nat.lt_of_lt_of_le (HV.out _ (HVP.out _ hk)) A3.out.mods.size)).mono ?_; rintro e v4 ⟨rfl, hp⟩
  rw [G3.out] at hp ⊢
  unfold qidV
  have hA := A3.out.next N.out hp
  have c2 : v4.cell? ⟨bs, 2, none⟩ = some (.int .u8 0) := by rw [cell_of_row _ _ _ _ _ _ hA.row]; rfl
  have f2 : v4.frozen? ⟨bs, 2, none⟩ = false := frozen_of_row _ _ _ _ _ hA.row
  have c3 : v4.cell? ⟨bs, 3, none⟩ = some (.int .u32 0) := by rw [cell_of_row _ _ _ _ _ _ hA.row]; rfl
  have f3 : v4.frozen? ⟨bs, 3, none⟩ = false := frozen_of_row _ _ _ _ _ hA.row
  have c4 : v4.cell? ⟨bs, 4, none⟩ = some (.int .u64 0) := by rw [cell_of_row _ _ _ _ _ _ hA.row]; rfl
  have f4 : v4.frozen? ⟨bs, 4, none⟩ = false := frozen_of_row _ _ _ _ _ hA.row
  have A4 : Hid (TakeAt w a p w.heap.size bs vb vp P.2 q.2 #[.int .u16 (g1.1 : Int), .int .u32 (g2.1 : Int), .int .u8 (q.1.kind : Int), .int .u32 (q.1.vers : Int), .int .u64 (q.1.path : Int), .int .u32 0, .int .u32 0, .int .u32 0, .int .u64 0, .string ⟨#[]⟩, .string ⟨#[]⟩, .string ⟨#[]⟩, .string ⟨#[]⟩] _) := Lib.hid (((hA.set N.out 2 (.int .u8 (q.1.kind : Int))).set N.out 3 (.int .u32 (q.1.vers : Int))).set N.out 4 (.int .u64 (q.1.path : Int)))
  clear hp hA A3
  go_wp2_with fail
  clear c2 f2 c3 f3 c4 f4
  generalize (((v4.setCell ⟨bs, 2, none⟩ (.int .u8 (q.1.kind : Int))).setCell ⟨bs, 3, none⟩ (.int .u32 (q.1.vers : Int))).setCell ⟨bs, 4, none⟩ (.int .u64 (q.1.path : Int))) = z4 at *
  refine (ru32_any A4.out.part).mono ?_; rintro e v5 ⟨rfl, hp⟩
  rw [G4.out] at hp ⊢
  have hA := A4.out.next N.out hp
  have c5 : v5.cell? ⟨bs, 5, none⟩ = some (.int .u32 0) := by rw [cell_of_row _ _ _ _ _ _ hA.row]; rfl
  have f5 : v5.frozen? ⟨bs, 5, none⟩ = false := frozen_of_row _ _ _ _ _ hA.row
  have A5 : Hid (TakeAt w a p w.heap.size bs vb vp P.2 g4.2 #[.int .u16 (g1.1 : Int), .int .u32 (g2.1 : Int), .int .u8 (q.1.kind : Int), .int .u32 (q.1.vers : Int), .int .u64 (q.1.path : Int), .int .u32 (g4.1 : Int), .int .u32 0, .int .u32 0, .int .u64 0, .string ⟨#[]⟩, .string ⟨#[]⟩, .string ⟨#[]⟩, .string ⟨#[]⟩] _) := Lib.hid (hA.set N.out 5 (.int .u32 (g4.1 : Int)))
  clear hp hA A4
  go_wp2_with fail
  clear c5 f5
  generalize (v5.setCell ⟨bs, 5, none⟩ (.int .u32 (g4.1 : Int))) = z5 at *
  refine (ru32_any A5.out.part).mono ?_; rintro e v6 ⟨rfl, hp⟩
  rw [G5.out] at hp ⊢
  have hA := A5.out.next N.out hp
  have c6 : v6.cell? ⟨bs, 6, none⟩ = some (.int .u32 0) := by rw [cell_of_row _ _ _ _ _ _ hA.row]; rfl
  have f6 : v6.frozen? ⟨bs, 6, none⟩ = false := frozen_of_row _ _ _ _ _ hA.row
  have A6 : Hid (TakeAt w a p w.heap.size bs vb vp P.2 g5.2 #[.int .u16 (g1.1 : Int), .int .u32 (g2.1 : Int), .int .u8 (q.1.kind : Int), .int .u32 (q.1.vers : Int), .int .u64 (q.1.path : Int), .int .u32 (g4.1 : Int), .int .u32 (g5.1 : Int), .int .u32 0, .int .u64 0, .string ⟨#[]⟩, .string ⟨#[]⟩, .string ⟨#[]⟩, .string ⟨#[]⟩] _) := Lib.hid (hA.set N.out 6 (.int .u32 (g5.1 : Int)))
  clear hp hA A5
  go_wp2_with fail
  clear c6 f6
  generalize (v6.setCell ⟨bs, 6, none⟩ (.int .u32 (g5.1 : Int))) = z6 at *
  refine (ru32_any A6.out.part).mono ?_; rintro e v7 ⟨rfl, hp⟩
  rw [G6.out] at hp ⊢
  have hA := A6.out.next N.out hp
  have c7 : v7.cell? ⟨bs, 7, none⟩ = some (.int .u32 0) := by rw [cell_of_row _ _ _ _ _ _ hA.row]; rfl
  have f7 : v7.frozen? ⟨bs, 7, none⟩ = false := frozen_of_row _ _ _ _ _ hA.row
  have A7 : Hid (TakeAt w a p w.heap.size bs vb vp P.2 g6.2 #[.int .u16 (g1.1 : Int), .int .u32 (g2.1 : Int), .int .u8 (q.1.kind : Int), .int .u32 (q.1.vers : Int), .int .u64 (q.1.path : Int), .int .u32 (g4.1 : Int), .int .u32 (g5.1 : Int), .int .u32 (g6.1 : Int), .int .u64 0, .string ⟨#[]⟩, .string ⟨#[]⟩, .string ⟨#[]⟩, .string ⟨#[]⟩] _) := Lib.hid (hA.set N.out 7 (.int .u32 (g6.1 : Int)))
  clear hp hA A6
  go_wp2_with fail
  clear c7 f7
  generalize (v7.setCell ⟨bs, 7, none⟩ (.int .u32 (g6.1 : Int))) = z7 at *
  refine (ru64_any A7.out.part).mono ?_; rintro e v8 ⟨rfl, hp⟩
  rw [G7.out] at hp ⊢
  have hA := A7.out.next N.out hp
  have c8 : v8.cell? ⟨bs, 8, none⟩ = some (.int .u64 0) := by rw [cell_of_row _ _ _ _ _ _ hA.row]; rfl
  have f8 : v8.frozen? ⟨bs, 8, none⟩ = false := frozen_of_row _ _ _ _ _ hA.row
  have A8 : Hid (TakeAt w a p w.heap.size bs vb vp P.2 g7.2 #[.int .u16 (g1.1 : Int), .int .u32 (g2.1 : Int), .int .u8 (q.1.kind : Int), .int .u32 (q.1.vers : Int), .int .u64 (q.1.path : Int), .int .u32 (g4.1 : Int), .int .u32 (g5.1 : Int), .int .u32 (g6.1 : Int), .int .u64 (g7.1 : Int), .string ⟨#[]⟩, .string ⟨#[]⟩, .string ⟨#[]⟩, .string ⟨#[]⟩] _) := Lib.hid (hA.set N.out 8 (.int .u64 (g7.1 : Int)))
  clear hp hA A7
  go_wp2_with fail
  clear c8 f8
  generalize (v8.setCell ⟨bs, 8, none⟩ (.int .u64 (g7.1 : Int))) = z8 at *
  refine (rtext_any A8.out.part A8.out.tabs).mono ?_; rintro e v9 ⟨rfl, hp⟩
  rw [G8.out] at hp ⊢
  have hA := A8.out.next N.out hp
  have c9 : v9.cell? ⟨bs, 9, none⟩ = some (.string ⟨#[]⟩) := by rw [cell_of_row _ _ _ _ _ _ hA.row]; rfl
  have f9 : v9.frozen? ⟨bs, 9, none⟩ = false := frozen_of_row _ _ _ _ _ hA.row
  have A9 : Hid (TakeAt w a p w.heap.size bs vb vp P.2 x8.2 #[.int .u16 (g1.1 : Int), .int .u32 (g2.1 : Int), .int .u8 (q.1.kind : Int), .int .u32 (q.1.vers : Int), .int .u64 (q.1.path : Int), .int .u32 (g4.1 : Int), .int .u32 (g5.1 : Int), .int .u32 (g6.1 : Int), .int .u64 (g7.1 : Int), .string ⟨x8.1.toArray⟩, .string ⟨#[]⟩, .string ⟨#[]⟩, .string ⟨#[]⟩] _) := Lib.hid (hA.set N.out 9 (.string ⟨x8.1.toArray⟩))
  clear hp hA A8
  go_wp2_with fail
  clear c9 f9
  generalize (v9.setCell ⟨bs, 9, none⟩ (.string ⟨x8.1.toArray⟩)) = z9 at *
  refine (rtext_any A9.out.part A9.out.tabs).mono ?_; rintro e v10 ⟨rfl, hp⟩
  rw [G9.out] at hp ⊢
  have hA := A9.out.next N.out hp
  have c10 : v10.cell? ⟨bs, 10, none⟩ = some (.string ⟨#[]⟩) := by rw [cell_of_row _ _ _ _ _ _ hA.row]; rfl
  have f10 : v10.frozen? ⟨bs, 10, none⟩ = false := frozen_of_row _ _ _ _ _ hA.row
  have A10 : Hid (TakeAt w a p w.heap.size bs vb vp P.2 x9.2 #[.int .u16 (g1.1 : Int), .int .u32 (g2.1 : Int), .int .u8 (q.1.kind : Int), .int .u32 (q.1.vers : Int), .int .u64 (q.1.path : Int), .int .u32 (g4.1 : Int), .int .u32 (g5.1 : Int), .int .u32 (g6.1 : Int), .int .u64 (g7.1 : Int), .string ⟨x8.1.toArray⟩, .string ⟨x9.1.toArray⟩, .string ⟨#[]⟩, .string ⟨#[]⟩] _) := Lib.hid (hA.set N.out 10 (.string ⟨x9.1.toArray⟩))
  clear hp hA A9
  go_wp2_with fail
  clear c10 f10
  generalize (v10.setCell ⟨bs, 10, none⟩ (.string ⟨x9.1.toArray⟩)) = z10 at *
  refine (rtext_any A10.out.part A10.out.tabs).mono ?_; rintro e v11 ⟨rfl, hp⟩
  rw [G10.out] at hp ⊢
  have hA := A10.out.next N.out hp
  have c11 : v11.cell? ⟨bs, 11, none⟩ = some (.string ⟨#[]⟩) := by rw [cell_of_row _ _ _ _ _ _ hA.row]; rfl
  have f11 : v11.frozen? ⟨bs, 11, none⟩ = false := frozen_of_row _ _ _ _ _ hA.row
  have A11 : Hid (TakeAt w a p w.heap.size bs vb vp P.2 x10.2 #[.int .u16 (g1.1 : Int), .int .u32 (g2.1 : Int), .int .u8 (q.1.kind : Int), .int .u32 (q.1.vers : Int), .int .u64 (q.1.path : Int), .int .u32 (g4.1 : Int), .int .u32 (g5.1 : Int), .int .u32 (g6.1 : Int), .int .u64 (g7.1 : Int), .string ⟨x8.1.toArray⟩, .string ⟨x9.1.toArray⟩, .string ⟨x10.1.toArray⟩, .string ⟨#[]⟩] _) := Lib.hid (hA.set N.out 11 (.string ⟨x10.1.toArray⟩))
  clear hp hA A10
  go_wp2_with fail
  clear c11 f11
  generalize (v11.setCell ⟨bs, 11, none⟩ (.string ⟨x10.1.toArray⟩)) = z11 at *
  refine (rtext_any A11.out.part A11.out.tabs).mono ?_; rintro e v12 ⟨rfl, hp⟩
  rw [G11.out] at hp ⊢
  have hA := A11.out.next N.out hp
  have c12 : v12.cell? ⟨bs, 12, none⟩ = some (.string ⟨#[]⟩) := by rw [cell_of_row _ _ _ _ _ _ hA.row]; rfl
  have f12 : v12.frozen? ⟨bs, 12, none⟩ = false := frozen_of_row _ _ _ _ _ hA.row
  have A12 : Hid (TakeAt w a p w.heap.size bs vb vp P.2 x11.2 #[.int .u16 (g1.1 : Int), .int .u32 (g2.1 : Int), .int .u8 (q.1.kind : Int), .int .u32 (q.1.vers : Int), .int .u64 (q.1.path : Int), .int .u32 (g4.1 : Int), .int .u32 (g5.1 : Int), .int .u32 (g6.1 : Int), .int .u64 (g7.1 : Int), .string ⟨x8.1.toArray⟩, .string ⟨x9.1.toArray⟩, .string ⟨x10.1.toArray⟩, .string ⟨x11.1.toArray⟩] _) := Lib.hid (hA.set N.out 12 (.string ⟨x11.1.toArray⟩))
  clear hp hA A11
  go_wp2_with fail
  clear c12 f12
  generalize (v12.setCell ⟨bs, 12, none⟩ (.string ⟨x11.1.toArray⟩)) = z12 at *
  refine (end_any A12.out.part).mono ?_; rintro e v13 ⟨rfl, hp⟩
  rw [GF.out] at hp
  have A13 := Lib.hid (A12.out.next N.out hp)
  clear hp A12
  go_wp2_with fail
  refine (err_any A13.out.part).mono ?_; rintro e v14 ⟨rfl, k, rfl⟩
  have A14 := Lib.hid (A13.out.drewN k)
  generalize v13.drewN k = v14 at *
  clear A13
  by_cases he : F.err = 0
  · have hb : (F.err != 0) = false := by rw [he]; rfl
    have HE := Lib.hid he
    clear he
    have c0 : v14.cell? ⟨bs, 0, none⟩ = some (.int .u16 (g1.1 : Int)) := by rw [cell_of_row _ _ _ _ _ _ A14.out.row]; rfl
    have c1 : v14.cell? ⟨bs, 1, none⟩ = some (.int .u32 (g2.1 : Int)) := by rw [cell_of_row _ _ _ _ _ _ A14.out.row]; rfl
    have c2 : v14.cell? ⟨bs, 2, none⟩ = some (.int .u8 (q.1.kind : Int)) := by rw [cell_of_row _ _ _ _ _ _ A14.out.row]; rfl
    have c3 : v14.cell? ⟨bs, 3, none⟩ = some (.int .u32 (q.1.vers : Int)) := by rw [cell_of_row _ _ _ _ _ _ A14.out.row]; rfl
    have c4 : v14.cell? ⟨bs, 4, none⟩ = some (.int .u64 (q.1.path : Int)) := by rw [cell_of_row _ _ _ _ _ _ A14.out.row]; rfl
    have c5 : v14.cell? ⟨bs, 5, none⟩ = some (.int .u32 (g4.1 : Int)) := by rw [cell_of_row _ _ _ _ _ _ A14.out.row]; rfl
    have c6 : v14.cell? ⟨bs, 6, none⟩ = some (.int .u32 (g5.1 : Int)) := by rw [cell_of_row _ _ _ _ _ _ A14.out.row]; rfl
    have c7 : v14.cell? ⟨bs, 7, none⟩ = some (.int .u32 (g6.1 : Int)) := by rw [cell_of_row _ _ _ _ _ _ A14.out.row]; rfl
    have c8 : v14.cell? ⟨bs, 8, none⟩ = some (.int .u64 (g7.1 : Int)) := by rw [cell_of_row _ _ _ _ _ _ A14.out.row]; rfl
    have c9 : v14.cell? ⟨bs, 9, none⟩ = some (.string ⟨x8.1.toArray⟩) := by rw [cell_of_row _ _ _ _ _ _ A14.out.row]; rfl
    have c10 : v14.cell? ⟨bs, 10, none⟩ = some (.string ⟨x9.1.toArray⟩) := by rw [cell_of_row _ _ _ _ _ _ A14.out.row]; rfl
    have c11 : v14.cell? ⟨bs, 11, none⟩ = some (.string ⟨x10.1.toArray⟩) := by rw [cell_of_row _ _ _ _ _ _ A14.out.row]; rfl
    have c12 : v14.cell? ⟨bs, 12, none⟩ = some (.string ⟨x11.1.toArray⟩) := by rw [cell_of_row _ _ _ _ _ _ A14.out.row]; rfl
    have d0 : v14.cell? ⟨w.heap.size, 0, none⟩ = some (.int .u16 0) := by rw [cell_of_row _ _ _ _ _ _ A14.out.res]; rfl
    have k0 : v14.frozen? ⟨w.heap.size, 0, none⟩ = false := frozen_of_row _ _ _ _ _ A14.out.res
    have d1 : v14.cell? ⟨w.heap.size, 1, none⟩ = some (.int .u32 0) := by rw [cell_of_row _ _ _ _ _ _ A14.out.res]; rfl
    have k1 : v14.frozen? ⟨w.heap.size, 1, none⟩ = false := frozen_of_row _ _ _ _ _ A14.out.res
    have d2 : v14.cell? ⟨w.heap.size, 2, none⟩ = some (.int .u8 0) := by rw [cell_of_row _ _ _ _ _ _ A14.out.res]; rfl
    have k2 : v14.frozen? ⟨w.heap.size, 2, none⟩ = false := frozen_of_row _ _ _ _ _ A14.out.res
    have d3 : v14.cell? ⟨w.heap.size, 3, none⟩ = some (.int .u32 0) := by rw [cell_of_row _ _ _ _ _ _ A14.out.res]; rfl
    have k3 : v14.frozen? ⟨w.heap.size, 3, none⟩ = false := frozen_of_row _ _ _ _ _ A14.out.res
    have d4 : v14.cell? ⟨w.heap.size, 4, none⟩ = some (.int .u64 0) := by rw [cell_of_row _ _ _ _ _ _ A14.out.res]; rfl
    have k4 : v14.frozen? ⟨w.heap.size, 4, none⟩ = false := frozen_of_row _ _ _ _ _ A14.out.res
    have d5 : v14.cell? ⟨w.heap.size, 5, none⟩ = some (.int .u32 0) := by rw [cell_of_row _ _ _ _ _ _ A14.out.res]; rfl
    have k5 : v14.frozen? ⟨w.heap.size, 5, none⟩ = false := frozen_of_row _ _ _ _ _ A14.out.res
    have d6 : v14.cell? ⟨w.heap.size, 6, none⟩ = some (.int .u32 0) := by rw [cell_of_row _ _ _ _ _ _ A14.out.res]; rfl
    have k6 : v14.frozen? ⟨w.heap.size, 6, none⟩ = false := frozen_of_row _ _ _ _ _ A14.out.res
    have d7 : v14.cell? ⟨w.heap.size, 7, none⟩ = some (.int .u32 0) := by rw [cell_of_row _ _ _ _ _ _ A14.out.res]; rfl
    have k7 : v14.frozen? ⟨w.heap.size, 7, none⟩ = false := frozen_of_row _ _ _ _ _ A14.out.res
    have d8 : v14.cell? ⟨w.heap.size, 8, none⟩ = some (.int .u64 0) := by rw [cell_of_row _ _ _ _ _ _ A14.out.res]; rfl
    have k8 : v14.frozen? ⟨w.heap.size, 8, none⟩ = false := frozen_of_row _ _ _ _ _ A14.out.res
    have d9 : v14.cell? ⟨w.heap.size, 9, none⟩ = some (.string ⟨#[]⟩) := by rw [cell_of_row _ _ _ _ _ _ A14.out.res]; rfl
    have k9 : v14.frozen? ⟨w.heap.size, 9, none⟩ = false := frozen_of_row _ _ _ _ _ A14.out.res
    have d10 : v14.cell? ⟨w.heap.size, 10, none⟩ = some (.string ⟨#[]⟩) := by rw [cell_of_row _ _ _ _ _ _ A14.out.res]; rfl
    have k10 : v14.frozen? ⟨w.heap.size, 10, none⟩ = false := frozen_of_row _ _ _ _ _ A14.out.res
    have d11 : v14.cell? ⟨w.heap.size, 11, none⟩ = some (.string ⟨#[]⟩) := by rw [cell_of_row _ _ _ _ _ _ A14.out.res]; rfl
    have k11 : v14.frozen? ⟨w.heap.size, 11, none⟩ = false := frozen_of_row _ _ _ _ _ A14.out.res
    have d12 : v14.cell? ⟨w.heap.size, 12, none⟩ = some (.string ⟨#[]⟩) := by rw [cell_of_row _ _ _ _ _ _ A14.out.res]; rfl
    have k12 : v14.frozen? ⟨w.heap.size, 12, none⟩ = false := frozen_of_row _ _ _ _ _ A14.out.res
    go_wp2_with fail
    have HR : RPost 140 w a vb P.2 v14 := ⟨A14.out.out, A14.out.mods⟩
    refine bodyPost_ret (v := .agg #[.int .u16 (g1.1 : Int), .int .u32 (g2.1 : Int), .int .u8 (q.1.kind : Int), .int .u32 (q.1.vers : Int), .int .u64 (q.1.path : Int), .int .u32 (g4.1 : Int), .int .u32 (g5.1 : Int), .int .u32 (g6.1 : Int), .int .u64 (g7.1 : Int), .string ⟨x8.1.toArray⟩, .string ⟨x9.1.toArray⟩, .string ⟨x10.1.toArray⟩, .string ⟨x11.1.toArray⟩]) (by simp [results, Tryz.results62, go_sem, d0, d1, d2, d3, d4, d5, d6, d7, d8, d9, d10, d11, d12]) rfl ?_
    have hM := ((((((((((((((Mods.refl [w.heap.size] v14).setCell (p := ⟨w.heap.size, 0, none⟩) (Or.inl (by simp)) (.int .u16 (g1.1 : Int))).setCell (p := ⟨w.heap.size, 1, none⟩) (Or.inl (by simp)) (.int .u32 (g2.1 : Int))).setCell (p := ⟨w.heap.size, 2, none⟩) (Or.inl (by simp)) (.int .u8 (q.1.kind : Int))).setCell (p := ⟨w.heap.size, 3, none⟩) (Or.inl (by simp)) (.int .u32 (q.1.vers : Int))).setCell (p := ⟨w.heap.size, 4, none⟩) (Or.inl (by simp)) (.int .u64 (q.1.path : Int))).setCell (p := ⟨w.heap.size, 5, none⟩) (Or.inl (by simp)) (.int .u32 (g4.1 : Int))).setCell (p := ⟨w.heap.size, 6, none⟩) (Or.inl (by simp)) (.int .u32 (g5.1 : Int))).setCell (p := ⟨w.heap.size, 7, none⟩) (Or.inl (by simp)) (.int .u32 (g6.1 : Int))).setCell (p := ⟨w.heap.size, 8, none⟩) (Or.inl (by simp)) (.int .u64 (g7.1 : Int))).setCell (p := ⟨w.heap.size, 9, none⟩) (Or.inl (by simp)) (.string ⟨x8.1.toArray⟩)).setCell (p := ⟨w.heap.size, 10, none⟩) (Or.inl (by simp)) (.string ⟨x9.1.toArray⟩)).setCell (p := ⟨w.heap.size, 11, none⟩) (Or.inl (by simp)) (.string ⟨x10.1.toArray⟩)).setCell (p := ⟨w.heap.size, 12, none⟩) (Or.inl (by simp)) (.string ⟨x11.1.toArray⟩))
    rw [HEQ.out, if_neg (by simpa using HE.out)]
    exact ⟨rfl, HR.1.mods hM (by simpa using fun e => N.out.a0 e.symm) (fun k hk hm => N.out.vb0 (by simp at hm; subst hm; exact hk)), HR.2.trans hM (fun b hb => by simp at hb; subst hb; exact Or.inr (Nat.le_refl _))⟩
  · have hb : (F.err != 0) = true := by simpa using he
    have HE := Lib.hid he
    clear he
    go_wp2_with fail
    refine (fail_any A14.out.out F.err A14.out.part.wf.lo A14.out.part.wf.hi).mono ?_; rintro e v15 ⟨rfl, hp⟩
    have hres := hp.2.heap A14.out.res (by simpa using N.out.a0)
    have HR : Hid (RPost 140 w a vb (P.2.wrong F.err 0) v15) := Lib.hid ⟨hp.1, A14.out.mods.trans hp.2 (fun b hb => Or.inl hb)⟩
    have d0 : v15.cell? ⟨w.heap.size, 0, none⟩ = some (.int .u16 0) := by rw [cell_of_row _ _ _ _ _ _ hres]; rfl
    have k0 : v15.frozen? ⟨w.heap.size, 0, none⟩ = false := frozen_of_row _ _ _ _ _ hres
    have d1 : v15.cell? ⟨w.heap.size, 1, none⟩ = some (.int .u32 0) := by rw [cell_of_row _ _ _ _ _ _ hres]; rfl
    have k1 : v15.frozen? ⟨w.heap.size, 1, none⟩ = false := frozen_of_row _ _ _ _ _ hres
    have d2 : v15.cell? ⟨w.heap.size, 2, none⟩ = some (.int .u8 0) := by rw [cell_of_row _ _ _ _ _ _ hres]; rfl
    have k2 : v15.frozen? ⟨w.heap.size, 2, none⟩ = false := frozen_of_row _ _ _ _ _ hres
    have d3 : v15.cell? ⟨w.heap.size, 3, none⟩ = some (.int .u32 0) := by rw [cell_of_row _ _ _ _ _ _ hres]; rfl
    have k3 : v15.frozen? ⟨w.heap.size, 3, none⟩ = false := frozen_of_row _ _ _ _ _ hres
    have d4 : v15.cell? ⟨w.heap.size, 4, none⟩ = some (.int .u64 0) := by rw [cell_of_row _ _ _ _ _ _ hres]; rfl
    have k4 : v15.frozen? ⟨w.heap.size, 4, none⟩ = false := frozen_of_row _ _ _ _ _ hres
    have d5 : v15.cell? ⟨w.heap.size, 5, none⟩ = some (.int .u32 0) := by rw [cell_of_row _ _ _ _ _ _ hres]; rfl
    have k5 : v15.frozen? ⟨w.heap.size, 5, none⟩ = false := frozen_of_row _ _ _ _ _ hres
    have d6 : v15.cell? ⟨w.heap.size, 6, none⟩ = some (.int .u32 0) := by rw [cell_of_row _ _ _ _ _ _ hres]; rfl
    have k6 : v15.frozen? ⟨w.heap.size, 6, none⟩ = false := frozen_of_row _ _ _ _ _ hres
    have d7 : v15.cell? ⟨w.heap.size, 7, none⟩ = some (.int .u32 0) := by rw [cell_of_row _ _ _ _ _ _ hres]; rfl
    have k7 : v15.frozen? ⟨w.heap.size, 7, none⟩ = false := frozen_of_row _ _ _ _ _ hres
    have d8 : v15.cell? ⟨w.heap.size, 8, none⟩ = some (.int .u64 0) := by rw [cell_of_row _ _ _ _ _ _ hres]; rfl
    have k8 : v15.frozen? ⟨w.heap.size, 8, none⟩ = false := frozen_of_row _ _ _ _ _ hres
    have d9 : v15.cell? ⟨w.heap.size, 9, none⟩ = some (.string ⟨#[]⟩) := by rw [cell_of_row _ _ _ _ _ _ hres]; rfl
    have k9 : v15.frozen? ⟨w.heap.size, 9, none⟩ = false := frozen_of_row _ _ _ _ _ hres
    have d10 : v15.cell? ⟨w.heap.size, 10, none⟩ = some (.string ⟨#[]⟩) := by rw [cell_of_row _ _ _ _ _ _ hres]; rfl
    have k10 : v15.frozen? ⟨w.heap.size, 10, none⟩ = false := frozen_of_row _ _ _ _ _ hres
    have d11 : v15.cell? ⟨w.heap.size, 11, none⟩ = some (.string ⟨#[]⟩) := by rw [cell_of_row _ _ _ _ _ _ hres]; rfl
    have k11 : v15.frozen? ⟨w.heap.size, 11, none⟩ = false := frozen_of_row _ _ _ _ _ hres
    have d12 : v15.cell? ⟨w.heap.size, 12, none⟩ = some (.string ⟨#[]⟩) := by rw [cell_of_row _ _ _ _ _ _ hres]; rfl
    have k12 : v15.frozen? ⟨w.heap.size, 12, none⟩ = false := frozen_of_row _ _ _ _ _ hres
    clear hp hres
    go_wp2_with fail
    refine bodyPost_ret (v := .agg #[.int .u16 0, .int .u32 0, .int .u8 0, .int .u32 0, .int .u64 0, .int .u32 0, .int .u32 0, .int .u32 0, .int .u64 0, .string ⟨#[]⟩, .string ⟨#[]⟩, .string ⟨#[]⟩, .string ⟨#[]⟩]) (by simp [results, Tryz.results62, go_sem, d0, d1, d2, d3, d4, d5, d6, d7, d8, d9, d10, d11, d12]) rfl ?_
    have hM := ((((((((((((((Mods.refl [w.heap.size] v15).setCell (p := ⟨w.heap.size, 0, none⟩) (Or.inl (by simp)) (.int .u16 0)).setCell (p := ⟨w.heap.size, 1, none⟩) (Or.inl (by simp)) (.int .u32 0)).setCell (p := ⟨w.heap.size, 2, none⟩) (Or.inl (by simp)) (.int .u8 0)).setCell (p := ⟨w.heap.size, 3, none⟩) (Or.inl (by simp)) (.int .u32 0)).setCell (p := ⟨w.heap.size, 4, none⟩) (Or.inl (by simp)) (.int .u64 0)).setCell (p := ⟨w.heap.size, 5, none⟩) (Or.inl (by simp)) (.int .u32 0)).setCell (p := ⟨w.heap.size, 6, none⟩) (Or.inl (by simp)) (.int .u32 0)).setCell (p := ⟨w.heap.size, 7, none⟩) (Or.inl (by simp)) (.int .u32 0)).setCell (p := ⟨w.heap.size, 8, none⟩) (Or.inl (by simp)) (.int .u64 0)).setCell (p := ⟨w.heap.size, 9, none⟩) (Or.inl (by simp)) (.string ⟨#[]⟩)).setCell (p := ⟨w.heap.size, 10, none⟩) (Or.inl (by simp)) (.string ⟨#[]⟩)).setCell (p := ⟨w.heap.size, 11, none⟩) (Or.inl (by simp)) (.string ⟨#[]⟩)).setCell (p := ⟨w.heap.size, 12, none⟩) (Or.inl (by simp)) (.string ⟨#[]⟩))
    rw [HEQ.out, if_pos HE.out]
    exact ⟨rfl, HR.out.1.mods hM (by simpa using fun e => N.out.a0 e.symm) (fun k hk hm => N.out.vb0 (by simp at hm; subst hm; exact hk)), HR.out.2.trans hM (fun b hb => by simp at hb; subst hb; exact Or.inr (Nat.le_refl _))⟩
end Go.Proofs.YtnpokdbpmnkbjaaGreatDoor
