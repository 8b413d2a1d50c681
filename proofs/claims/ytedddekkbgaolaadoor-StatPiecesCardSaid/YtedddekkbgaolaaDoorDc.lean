/- stat.Decode. (Printed by wip/bin/gendec.py.) -/
import Derived.Test.YtedddekkbgaolaaDoorTk
namespace Go.Proofs.YtedddekkbgaolaaDoor
open Go.RowKit Me

theorem decode_eq {l : List UInt8} {r : StatP × RSt} {F : RSt} (hr : (RSt.new l).stat = r) (hF : r.2.fin = F) : decode l = if F.err ≠ 0 then (StatP.zero, 20) else (r.1, 0) := by
  subst hr
  subst hF
  rfl
set_option maxRecDepth 100000 in
set_option maxHeartbeats 1000000 in
theorem decode_any {w : World} {vx : Value} (l : List UInt8) (hx : Rd w vx (l.map byteV)) (hl : l.length ≤ 70000000000000) (hT : Lib.Utf8Tabs 0 1 w) :
    Calls Tryd.prog 58 #[vx] w fun e w' => e = .returned (.tuple #[.agg (statV (decode l).1), .int .i64 ((decode l).2 : Int)]) ∧ Mods [] w w' := by
  have X0 := Lib.hid (hx.mods ((Mods.refl [] w).alloc (.cells zeroV 90)) (by simp))
  have B0 := Lib.hid (heap_alloc_new w (.cells zeroV 90))
  have h2 := tabs_two hT
  have M0 := Lib.hid ((Mods.refl [] w).alloc (.cells zeroV 90))
  have T0 := Lib.hid (tabs_mods M0.out hT)
  clear hx hT
  generalize hr : (RSt.new l).stat = r at *
  generalize hF : r.2.fin = F at *
  have HEQ := Lib.hid (decode_eq hr hF)
  have GR := Lib.hid hr
  have GF := Lib.hid hF
  clear hr hF
  go_enter Tryd.func58, Tryd.ntmps58
  go_wp2_with fail
  refine (newReader_any l X0.out hl).mono ?_; rintro e w1 ⟨a, vb, rfl, hr, ho, ha, hm⟩
  have ha' : w.heap.size + 1 ≤ a := by simpa using ha
  have R1 := Lib.hid hr
  have V1 := Lib.hid (fun k (hk : vb.ownBlock = some k) => (ho.lt k hk).2)
  have V2 := Lib.hid (fun k (hk : vb.ownBlock = some k) => (ho.lt k hk).1)
  have M1 := Lib.hid (M0.out.trans hm (by simp))
  have B1 := Lib.hid (hm.heap B0.out (by simp))
  have T1 := Lib.hid (tabs_mods hm T0.out)
  clear hr ho hm ha
  go_wp2_with fail
  refine (take_any R1.out V1.out (by omega) T1.out).mono ?_; rintro e w2 ⟨rfl, hp⟩
  rw [GR.out] at hp ⊢
  have R2 := Lib.hid (hp.1.mods ((Mods.refl [] w2).alloc (.cells (statV r.1) 90)) (by simp) (by simp))
  have M2 := Lib.hid ((M1.out.trans hp.2 (fun b hb => by simp at hb; subst hb; exact Or.inr (by omega))).alloc (.cells (statV r.1) 90))
  have hb2 := hp.2.heap B1.out (by simp; omega)
  have B2 := Lib.hid ((Go.heap_alloc_old w2 (.cells (statV r.1) 90) (Array.getElem?_eq_some_iff.1 hb2).1).trans hb2)
  have C2 := Lib.hid (heap_alloc_new w2 (.cells (statV r.1) 90))
  have hsz : a < w2.heap.size := (Array.getElem?_eq_some_iff.1 hp.1.cells).1
  clear hp hb2
  generalize r.1 = s at *
  unfold statV
  go_wp2_with fail
  refine (end_any R2.out).mono ?_; rintro e w3 ⟨rfl, hp⟩
  rw [GF.out] at hp
  have M3 := Lib.hid (M2.out.trans hp.2 (fun b hb => by simp at hb; subst hb; exact Or.inr (by omega)))
  have B3 := Lib.hid (hp.2.heap B2.out (by simp; omega))
  have C3 := Lib.hid (hp.2.heap C2.out (by simp; omega))
  have R3 := Lib.hid hp.1
  clear hp
  go_wp2_with fail
  refine (err_any R3.out).mono ?_; rintro e w4 ⟨rfl, k, rfl⟩
  have M4 := Lib.hid (M3.out.drewN k)
  have b4 : (w3.drewN k).heap[w.heap.size]? = some (.cells zeroV 90 (0, 0)) := B3.out
  have c4 : (w3.drewN k).heap[w2.heap.size]? = some (.cells (statV s) 90 (0, 0)) := C3.out
  generalize w3.drewN k = w4 at *
  have B4 := Lib.hid b4
  have C4 := Lib.hid c4
  clear b4 c4
  generalize w2.heap.size = bs at *
  by_cases he : F.err = 0
  · have hb : (F.err != 0) = false := by rw [he]; rfl
    have HE := Lib.hid he
    clear he
    have c0 : w4.cell? ⟨bs, 0, none⟩ = some (.int .u16 (s.typ : Int)) := by rw [cell_of_row _ _ _ _ _ _ C4.out]; rfl
    have c1 : w4.cell? ⟨bs, 1, none⟩ = some (.int .u32 (s.dev : Int)) := by rw [cell_of_row _ _ _ _ _ _ C4.out]; rfl
    have c2 : w4.cell? ⟨bs, 2, none⟩ = some (.int .u8 (s.qid.kind : Int)) := by rw [cell_of_row _ _ _ _ _ _ C4.out]; rfl
    have c3 : w4.cell? ⟨bs, 3, none⟩ = some (.int .u32 (s.qid.vers : Int)) := by rw [cell_of_row _ _ _ _ _ _ C4.out]; rfl
    have c4 : w4.cell? ⟨bs, 4, none⟩ = some (.int .u64 (s.qid.path : Int)) := by rw [cell_of_row _ _ _ _ _ _ C4.out]; rfl
    have c5 : w4.cell? ⟨bs, 5, none⟩ = some (.int .u32 (s.mode : Int)) := by rw [cell_of_row _ _ _ _ _ _ C4.out]; rfl
    have c6 : w4.cell? ⟨bs, 6, none⟩ = some (.int .u32 (s.atime : Int)) := by rw [cell_of_row _ _ _ _ _ _ C4.out]; rfl
    have c7 : w4.cell? ⟨bs, 7, none⟩ = some (.int .u32 (s.mtime : Int)) := by rw [cell_of_row _ _ _ _ _ _ C4.out]; rfl
    have c8 : w4.cell? ⟨bs, 8, none⟩ = some (.int .u64 (s.length : Int)) := by rw [cell_of_row _ _ _ _ _ _ C4.out]; rfl
    have c9 : w4.cell? ⟨bs, 9, none⟩ = some (.string s.name) := by rw [cell_of_row _ _ _ _ _ _ C4.out]; rfl
    have c10 : w4.cell? ⟨bs, 10, none⟩ = some (.string s.uid) := by rw [cell_of_row _ _ _ _ _ _ C4.out]; rfl
    have c11 : w4.cell? ⟨bs, 11, none⟩ = some (.string s.gid) := by rw [cell_of_row _ _ _ _ _ _ C4.out]; rfl
    have c12 : w4.cell? ⟨bs, 12, none⟩ = some (.string s.muid) := by rw [cell_of_row _ _ _ _ _ _ C4.out]; rfl
    have d0 : w4.cell? ⟨w.heap.size, 0, none⟩ = some (.int .u16 0) := by rw [cell_of_row _ _ _ _ _ _ B4.out]; rfl
    have k0 : w4.frozen? ⟨w.heap.size, 0, none⟩ = false := frozen_of_row _ _ _ _ _ B4.out
    have d1 : w4.cell? ⟨w.heap.size, 1, none⟩ = some (.int .u32 0) := by rw [cell_of_row _ _ _ _ _ _ B4.out]; rfl
    have k1 : w4.frozen? ⟨w.heap.size, 1, none⟩ = false := frozen_of_row _ _ _ _ _ B4.out
    have d2 : w4.cell? ⟨w.heap.size, 2, none⟩ = some (.int .u8 0) := by rw [cell_of_row _ _ _ _ _ _ B4.out]; rfl
    have k2 : w4.frozen? ⟨w.heap.size, 2, none⟩ = false := frozen_of_row _ _ _ _ _ B4.out
    have d3 : w4.cell? ⟨w.heap.size, 3, none⟩ = some (.int .u32 0) := by rw [cell_of_row _ _ _ _ _ _ B4.out]; rfl
    have k3 : w4.frozen? ⟨w.heap.size, 3, none⟩ = false := frozen_of_row _ _ _ _ _ B4.out
    have d4 : w4.cell? ⟨w.heap.size, 4, none⟩ = some (.int .u64 0) := by rw [cell_of_row _ _ _ _ _ _ B4.out]; rfl
    have k4 : w4.frozen? ⟨w.heap.size, 4, none⟩ = false := frozen_of_row _ _ _ _ _ B4.out
    have d5 : w4.cell? ⟨w.heap.size, 5, none⟩ = some (.int .u32 0) := by rw [cell_of_row _ _ _ _ _ _ B4.out]; rfl
    have k5 : w4.frozen? ⟨w.heap.size, 5, none⟩ = false := frozen_of_row _ _ _ _ _ B4.out
    have d6 : w4.cell? ⟨w.heap.size, 6, none⟩ = some (.int .u32 0) := by rw [cell_of_row _ _ _ _ _ _ B4.out]; rfl
    have k6 : w4.frozen? ⟨w.heap.size, 6, none⟩ = false := frozen_of_row _ _ _ _ _ B4.out
    have d7 : w4.cell? ⟨w.heap.size, 7, none⟩ = some (.int .u32 0) := by rw [cell_of_row _ _ _ _ _ _ B4.out]; rfl
    have k7 : w4.frozen? ⟨w.heap.size, 7, none⟩ = false := frozen_of_row _ _ _ _ _ B4.out
    have d8 : w4.cell? ⟨w.heap.size, 8, none⟩ = some (.int .u64 0) := by rw [cell_of_row _ _ _ _ _ _ B4.out]; rfl
    have k8 : w4.frozen? ⟨w.heap.size, 8, none⟩ = false := frozen_of_row _ _ _ _ _ B4.out
    have d9 : w4.cell? ⟨w.heap.size, 9, none⟩ = some (.string ⟨#[]⟩) := by rw [cell_of_row _ _ _ _ _ _ B4.out]; rfl
    have k9 : w4.frozen? ⟨w.heap.size, 9, none⟩ = false := frozen_of_row _ _ _ _ _ B4.out
    have d10 : w4.cell? ⟨w.heap.size, 10, none⟩ = some (.string ⟨#[]⟩) := by rw [cell_of_row _ _ _ _ _ _ B4.out]; rfl
    have k10 : w4.frozen? ⟨w.heap.size, 10, none⟩ = false := frozen_of_row _ _ _ _ _ B4.out
    have d11 : w4.cell? ⟨w.heap.size, 11, none⟩ = some (.string ⟨#[]⟩) := by rw [cell_of_row _ _ _ _ _ _ B4.out]; rfl
    have k11 : w4.frozen? ⟨w.heap.size, 11, none⟩ = false := frozen_of_row _ _ _ _ _ B4.out
    have d12 : w4.cell? ⟨w.heap.size, 12, none⟩ = some (.string ⟨#[]⟩) := by rw [cell_of_row _ _ _ _ _ _ B4.out]; rfl
    have k12 : w4.frozen? ⟨w.heap.size, 12, none⟩ = false := frozen_of_row _ _ _ _ _ B4.out
    go_wp2_with fail
    refine bodyPost_ret (v := .tuple #[.agg #[.int .u16 (s.typ : Int), .int .u32 (s.dev : Int), .int .u8 (s.qid.kind : Int), .int .u32 (s.qid.vers : Int), .int .u64 (s.qid.path : Int), .int .u32 (s.mode : Int), .int .u32 (s.atime : Int), .int .u32 (s.mtime : Int), .int .u64 (s.length : Int), .string s.name, .string s.uid, .string s.gid, .string s.muid], .int .i64 0]) (by simp [results, Tryd.results58, go_sem, d0, d1, d2, d3, d4, d5, d6, d7, d8, d9, d10, d11, d12]) rfl ?_
    have hM := (((((((((((((M4.out.setCell (p := ⟨w.heap.size, 0, none⟩) (Or.inr (Nat.le_refl _)) (.int .u16 (s.typ : Int))).setCell (p := ⟨w.heap.size, 1, none⟩) (Or.inr (Nat.le_refl _)) (.int .u32 (s.dev : Int))).setCell (p := ⟨w.heap.size, 2, none⟩) (Or.inr (Nat.le_refl _)) (.int .u8 (s.qid.kind : Int))).setCell (p := ⟨w.heap.size, 3, none⟩) (Or.inr (Nat.le_refl _)) (.int .u32 (s.qid.vers : Int))).setCell (p := ⟨w.heap.size, 4, none⟩) (Or.inr (Nat.le_refl _)) (.int .u64 (s.qid.path : Int))).setCell (p := ⟨w.heap.size, 5, none⟩) (Or.inr (Nat.le_refl _)) (.int .u32 (s.mode : Int))).setCell (p := ⟨w.heap.size, 6, none⟩) (Or.inr (Nat.le_refl _)) (.int .u32 (s.atime : Int))).setCell (p := ⟨w.heap.size, 7, none⟩) (Or.inr (Nat.le_refl _)) (.int .u32 (s.mtime : Int))).setCell (p := ⟨w.heap.size, 8, none⟩) (Or.inr (Nat.le_refl _)) (.int .u64 (s.length : Int))).setCell (p := ⟨w.heap.size, 9, none⟩) (Or.inr (Nat.le_refl _)) (.string s.name)).setCell (p := ⟨w.heap.size, 10, none⟩) (Or.inr (Nat.le_refl _)) (.string s.uid)).setCell (p := ⟨w.heap.size, 11, none⟩) (Or.inr (Nat.le_refl _)) (.string s.gid)).setCell (p := ⟨w.heap.size, 12, none⟩) (Or.inr (Nat.le_refl _)) (.string s.muid))
    rw [HEQ.out, if_neg (by simpa using HE.out)]
    exact ⟨rfl, hM⟩
  · have hb : (F.err != 0) = true := by simpa using he
    have HE := Lib.hid he
    clear he
    have d0 : w4.cell? ⟨w.heap.size, 0, none⟩ = some (.int .u16 0) := by rw [cell_of_row _ _ _ _ _ _ B4.out]; rfl
    have k0 : w4.frozen? ⟨w.heap.size, 0, none⟩ = false := frozen_of_row _ _ _ _ _ B4.out
    have d1 : w4.cell? ⟨w.heap.size, 1, none⟩ = some (.int .u32 0) := by rw [cell_of_row _ _ _ _ _ _ B4.out]; rfl
    have k1 : w4.frozen? ⟨w.heap.size, 1, none⟩ = false := frozen_of_row _ _ _ _ _ B4.out
    have d2 : w4.cell? ⟨w.heap.size, 2, none⟩ = some (.int .u8 0) := by rw [cell_of_row _ _ _ _ _ _ B4.out]; rfl
    have k2 : w4.frozen? ⟨w.heap.size, 2, none⟩ = false := frozen_of_row _ _ _ _ _ B4.out
    have d3 : w4.cell? ⟨w.heap.size, 3, none⟩ = some (.int .u32 0) := by rw [cell_of_row _ _ _ _ _ _ B4.out]; rfl
    have k3 : w4.frozen? ⟨w.heap.size, 3, none⟩ = false := frozen_of_row _ _ _ _ _ B4.out
    have d4 : w4.cell? ⟨w.heap.size, 4, none⟩ = some (.int .u64 0) := by rw [cell_of_row _ _ _ _ _ _ B4.out]; rfl
    have k4 : w4.frozen? ⟨w.heap.size, 4, none⟩ = false := frozen_of_row _ _ _ _ _ B4.out
    have d5 : w4.cell? ⟨w.heap.size, 5, none⟩ = some (.int .u32 0) := by rw [cell_of_row _ _ _ _ _ _ B4.out]; rfl
    have k5 : w4.frozen? ⟨w.heap.size, 5, none⟩ = false := frozen_of_row _ _ _ _ _ B4.out
    have d6 : w4.cell? ⟨w.heap.size, 6, none⟩ = some (.int .u32 0) := by rw [cell_of_row _ _ _ _ _ _ B4.out]; rfl
    have k6 : w4.frozen? ⟨w.heap.size, 6, none⟩ = false := frozen_of_row _ _ _ _ _ B4.out
    have d7 : w4.cell? ⟨w.heap.size, 7, none⟩ = some (.int .u32 0) := by rw [cell_of_row _ _ _ _ _ _ B4.out]; rfl
    have k7 : w4.frozen? ⟨w.heap.size, 7, none⟩ = false := frozen_of_row _ _ _ _ _ B4.out
    have d8 : w4.cell? ⟨w.heap.size, 8, none⟩ = some (.int .u64 0) := by rw [cell_of_row _ _ _ _ _ _ B4.out]; rfl
    have k8 : w4.frozen? ⟨w.heap.size, 8, none⟩ = false := frozen_of_row _ _ _ _ _ B4.out
    have d9 : w4.cell? ⟨w.heap.size, 9, none⟩ = some (.string ⟨#[]⟩) := by rw [cell_of_row _ _ _ _ _ _ B4.out]; rfl
    have k9 : w4.frozen? ⟨w.heap.size, 9, none⟩ = false := frozen_of_row _ _ _ _ _ B4.out
    have d10 : w4.cell? ⟨w.heap.size, 10, none⟩ = some (.string ⟨#[]⟩) := by rw [cell_of_row _ _ _ _ _ _ B4.out]; rfl
    have k10 : w4.frozen? ⟨w.heap.size, 10, none⟩ = false := frozen_of_row _ _ _ _ _ B4.out
    have d11 : w4.cell? ⟨w.heap.size, 11, none⟩ = some (.string ⟨#[]⟩) := by rw [cell_of_row _ _ _ _ _ _ B4.out]; rfl
    have k11 : w4.frozen? ⟨w.heap.size, 11, none⟩ = false := frozen_of_row _ _ _ _ _ B4.out
    have d12 : w4.cell? ⟨w.heap.size, 12, none⟩ = some (.string ⟨#[]⟩) := by rw [cell_of_row _ _ _ _ _ _ B4.out]; rfl
    have k12 : w4.frozen? ⟨w.heap.size, 12, none⟩ = false := frozen_of_row _ _ _ _ _ B4.out
    go_wp2_with fail
    refine bodyPost_ret (v := .tuple #[.agg #[.int .u16 0, .int .u32 0, .int .u8 0, .int .u32 0, .int .u64 0, .int .u32 0, .int .u32 0, .int .u32 0, .int .u64 0, .string ⟨#[]⟩, .string ⟨#[]⟩, .string ⟨#[]⟩, .string ⟨#[]⟩], .int .i64 20]) (by simp [results, Tryd.results58, go_sem, d0, d1, d2, d3, d4, d5, d6, d7, d8, d9, d10, d11, d12]) rfl ?_
    have hM := (((((((((((((M4.out.setCell (p := ⟨w.heap.size, 0, none⟩) (Or.inr (Nat.le_refl _)) (.int .u16 0)).setCell (p := ⟨w.heap.size, 1, none⟩) (Or.inr (Nat.le_refl _)) (.int .u32 0)).setCell (p := ⟨w.heap.size, 2, none⟩) (Or.inr (Nat.le_refl _)) (.int .u8 0)).setCell (p := ⟨w.heap.size, 3, none⟩) (Or.inr (Nat.le_refl _)) (.int .u32 0)).setCell (p := ⟨w.heap.size, 4, none⟩) (Or.inr (Nat.le_refl _)) (.int .u64 0)).setCell (p := ⟨w.heap.size, 5, none⟩) (Or.inr (Nat.le_refl _)) (.int .u32 0)).setCell (p := ⟨w.heap.size, 6, none⟩) (Or.inr (Nat.le_refl _)) (.int .u32 0)).setCell (p := ⟨w.heap.size, 7, none⟩) (Or.inr (Nat.le_refl _)) (.int .u32 0)).setCell (p := ⟨w.heap.size, 8, none⟩) (Or.inr (Nat.le_refl _)) (.int .u64 0)).setCell (p := ⟨w.heap.size, 9, none⟩) (Or.inr (Nat.le_refl _)) (.string ⟨#[]⟩)).setCell (p := ⟨w.heap.size, 10, none⟩) (Or.inr (Nat.le_refl _)) (.string ⟨#[]⟩)).setCell (p := ⟨w.heap.size, 11, none⟩) (Or.inr (Nat.le_refl _)) (.string ⟨#[]⟩)).setCell (p := ⟨w.heap.size, 12, none⟩) (Or.inr (Nat.le_refl _)) (.string ⟨#[]⟩))
    rw [HEQ.out, if_pos HE.out]
    exact ⟨rfl, hM⟩
end Go.Proofs.YtedddekkbgaolaaDoor
