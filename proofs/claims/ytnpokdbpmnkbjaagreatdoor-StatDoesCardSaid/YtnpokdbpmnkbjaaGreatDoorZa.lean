/- The reference's PutQid, Put: as stat.PutQid, stat.Put. -/
import Derived.Test.YtnpokdbpmnkbjaaGreatDoorSr
import Derived.Test.YtnpokdbpmnkbjaaGreatDoorBo
namespace Go.Proofs.YtnpokdbpmnkbjaaGreatDoor
open Go.RowKit Me

set_option maxHeartbeats 1000000 in
theorem rputQid_any {a : Nat} {S : WSt} {vb vo : Value} {w : World} (h : IsW 131 w a S vb vo) (q : QidP) (hq : q.Fits) :
    Calls Tryz.prog 55 #[.pointer (some ⟨a, 0, none⟩), .agg (qidV q)] w fun e w' => e = .returned (.tuple #[]) ∧ WPost 131 w a vb vo (S.qid q) w' := by
  obtain ⟨kind, vers, path⟩ := q
  obtain ⟨h1, h2, h3⟩ := hq
  simp only at h1 h2 h3
  have W0 := Lib.hid ((WAt.start h).alloc (.cells #[.int .u8 (kind : Int), .int .u32 (vers : Int), .int .u64 (path : Int)] 32))
  have R0 := Lib.hid (heap_alloc_new w (.cells #[.int .u8 (kind : Int), .int .u32 (vers : Int), .int .u64 (path : Int)] 32))
  have HP := Lib.hid (wrap_u64_big path h3)
  clear h
  simp only [qidV, WSt.qid]
  go_enter Tryz.func55, Tryz.ntmps55
  go_wp2_with fail
  refine (W0.out.call (fun _ _ h => vu8_any h kind (by omega))).mono ?_; rintro e w1 ⟨rfl, hw, hk⟩
  have r1 := (hk _ (Or.inr rfl)).trans R0.out
  have W1 := Lib.hid hw
  have R1 := Lib.hid r1
  have d1 : w1.cell? ⟨w.heap.size, 1, none⟩ = some (.int .u32 (vers : Int)) := by rw [cell_of_row _ _ _ _ _ _ r1]; rfl
  clear hw hk r1
  go_wp2_with fail
  refine (W1.out.call (fun _ _ h => vu32_any h vers h2)).mono ?_; rintro e w2 ⟨rfl, hw, hk⟩
  have r2 := (hk _ (Or.inr rfl)).trans R1.out
  have W2 := Lib.hid hw
  have d2 : w2.cell? ⟨w.heap.size, 2, none⟩ = some (.int .u64 (path : Int)) := by rw [cell_of_row _ _ _ _ _ _ r2]; rfl
  clear hw hk r2 d1
  go_wp2_with fail
  refine (W2.out.call (fun _ _ h => vu64_any h path h3)).mono ?_; rintro e w3 ⟨rfl, hw, hk⟩
  have W3 := Lib.hid hw
  clear hw hk
  go_wp2_with fail
  go_end0
  exact ⟨rfl, W3.out.post⟩
theorem texts_small2 (s : StatP) : ∀ t ∈ s.texts, t.size ≤ s.size := by
  intro t ht
  simp only [StatP.texts, List.mem_cons, List.not_mem_nil, or_false] at ht
  simp only [StatP.size]
  rcases ht with rfl | rfl | rfl | rfl <;> omega
set_option maxRecDepth 100000 in
set_option maxHeartbeats 1000000 in
theorem rput_any {a : Nat} {S : WSt} {vb vo : Value} {w : World} (h : IsW 131 w a S vb vo) (s : StatP) (hs : s.Fits) (hz : s.size ≤ 600000000000) :
    Calls Tryz.prog 53 #[.pointer (some ⟨a, 0, none⟩), .agg (statV s)] w fun e w' => e = .returned (.tuple #[]) ∧ WPost 131 w a vb vo (S.stat s) w' := by
  have W0 := Lib.hid ((WAt.start h).alloc (.cells (statV s) 35))
  have R0 := Lib.hid (heap_alloc_new w (.cells (statV s) 35))
  have HQ := Lib.hid hs.qid
  have HZ := Lib.hid (fun t (ht : t ∈ s.texts) => (show t.size ≤ 1099511627776 by have := texts_small2 s t ht; omega))
  obtain ⟨g1, g2, -, g3, g4, g5, g6⟩ := hs
  clear h
  rw [WSt.stat_eq]
  unfold WSt.nums
  simp only [StatP.texts, List.foldl_cons, List.foldl_nil]
  go_enter Tryz.func53, Tryz.ntmps53
  go_wp2_with fail
  generalize w.heap.size = b at *
  refine (W0.out.call (fun _ _ h => vopen_any h)).mono ?_; rintro e w1 ⟨rfl, hw, hk⟩
  have r1 := (hk _ (Or.inr rfl)).trans R0.out
  have W1 := Lib.hid hw
  have R1 := Lib.hid r1
  have c0 : w1.cell? ⟨b, 0, none⟩ = some (.int .u16 (s.typ : Int)) := by rw [cell_of_row _ _ _ _ _ _ r1]; rfl
  clear hw hk r1 W0 R0
  generalize hx : (S.opn.1) = X1 at *
  have HX1 := Lib.hid hx
  clear hx
  generalize hpl : S.opn.2 = place at *
  have HPL := Lib.hid hpl
  clear hpl
  go_wp2_with fail
  clear c0
  refine (W1.out.call (fun _ _ h => vu16_any h s.typ (by omega))).mono ?_; rintro e w2 ⟨rfl, hw, hk⟩
  have r2 := (hk _ (Or.inr rfl)).trans R1.out
  have W2 := Lib.hid hw
  have R2 := Lib.hid r2
  have c1 : w2.cell? ⟨b, 1, none⟩ = some (.int .u32 (s.dev : Int)) := by rw [cell_of_row _ _ _ _ _ _ r2]; rfl
  clear hw hk r2 W1 R1
  generalize hx : (X1.put (le s.typ 2)) = X2 at *
  have HX2 := Lib.hid hx
  clear hx
  go_wp2_with fail
  clear c1
  refine (W2.out.call (fun _ _ h => vu32_any h s.dev (by omega))).mono ?_; rintro e w3 ⟨rfl, hw, hk⟩
  have r3 := (hk _ (Or.inr rfl)).trans R2.out
  have W3 := Lib.hid hw
  have R3 := Lib.hid r3
  have c2 : w3.cell? ⟨b, 2, none⟩ = some (.int .u8 (s.qid.kind : Int)) := by rw [cell_of_row _ _ _ _ _ _ r3]; rfl
  have c3 : w3.cell? ⟨b, 3, none⟩ = some (.int .u32 (s.qid.vers : Int)) := by rw [cell_of_row _ _ _ _ _ _ r3]; rfl
  have c4 : w3.cell? ⟨b, 4, none⟩ = some (.int .u64 (s.qid.path : Int)) := by rw [cell_of_row _ _ _ _ _ _ r3]; rfl
  clear hw hk r3 W2 R2
  generalize hx : (X2.put (le s.dev 4)) = X3 at *
  have HX3 := Lib.hid hx
  clear hx
  go_wp2_with fail
  clear c2
  clear c3
  clear c4
  refine (W3.out.call (fun _ _ h => rputQid_any h s.qid HQ.out)).mono ?_; rintro e w4 ⟨rfl, hw, hk⟩
  have r4 := (hk _ (Or.inr rfl)).trans R3.out
  have W4 := Lib.hid hw
  have R4 := Lib.hid r4
  have c5 : w4.cell? ⟨b, 5, none⟩ = some (.int .u32 (s.mode : Int)) := by rw [cell_of_row _ _ _ _ _ _ r4]; rfl
  clear hw hk r4 W3 R3
  generalize hx : (X3.qid s.qid) = X4 at *
  have HX4 := Lib.hid hx
  clear hx
  go_wp2_with fail
  clear c5
  refine (W4.out.call (fun _ _ h => vu32_any h s.mode (by omega))).mono ?_; rintro e w5 ⟨rfl, hw, hk⟩
  have r5 := (hk _ (Or.inr rfl)).trans R4.out
  have W5 := Lib.hid hw
  have R5 := Lib.hid r5
  have c6 : w5.cell? ⟨b, 6, none⟩ = some (.int .u32 (s.atime : Int)) := by rw [cell_of_row _ _ _ _ _ _ r5]; rfl
  clear hw hk r5 W4 R4
  generalize hx : (X4.put (le s.mode 4)) = X5 at *
  have HX5 := Lib.hid hx
  clear hx
  go_wp2_with fail
  clear c6
  refine (W5.out.call (fun _ _ h => vu32_any h s.atime (by omega))).mono ?_; rintro e w6 ⟨rfl, hw, hk⟩
  have r6 := (hk _ (Or.inr rfl)).trans R5.out
  have W6 := Lib.hid hw
  have R6 := Lib.hid r6
  have c7 : w6.cell? ⟨b, 7, none⟩ = some (.int .u32 (s.mtime : Int)) := by rw [cell_of_row _ _ _ _ _ _ r6]; rfl
  clear hw hk r6 W5 R5
  generalize hx : (X5.put (le s.atime 4)) = X6 at *
  have HX6 := Lib.hid hx
  clear hx
  go_wp2_with fail
  clear c7
  refine (W6.out.call (fun _ _ h => vu32_any h s.mtime (by omega))).mono ?_; rintro e w7 ⟨rfl, hw, hk⟩
  have r7 := (hk _ (Or.inr rfl)).trans R6.out
  have W7 := Lib.hid hw
  have R7 := Lib.hid r7
  have c8 : w7.cell? ⟨b, 8, none⟩ = some (.int .u64 (s.length : Int)) := by rw [cell_of_row _ _ _ _ _ _ r7]; rfl
  clear hw hk r7 W6 R6
  generalize hx : (X6.put (le s.mtime 4)) = X7 at *
  have HX7 := Lib.hid hx
  clear hx
  go_wp2_with fail
  clear c8
  refine (W7.out.call (fun _ _ h => vu64_any h s.length (by omega))).mono ?_; rintro e w8 ⟨rfl, hw, hk⟩
  have r8 := (hk _ (Or.inr rfl)).trans R7.out
  have W8 := Lib.hid hw
  have R8 := Lib.hid r8
  have c9 : w8.cell? ⟨b, 9, none⟩ = some (.string s.name) := by rw [cell_of_row _ _ _ _ _ _ r8]; rfl
  clear hw hk r8 W7 R7
  generalize hx : (X7.put (le s.length 8)) = X8 at *
  have HX8 := Lib.hid hx
  clear hx
  go_wp2_with fail
  clear c9
  refine (W8.out.call (fun _ _ h => vtext_any h s.name (HZ.out _ (by simp [StatP.texts])))).mono ?_; rintro e w9 ⟨rfl, hw, hk⟩
  have r9 := (hk _ (Or.inr rfl)).trans R8.out
  have W9 := Lib.hid hw
  have R9 := Lib.hid r9
  have c10 : w9.cell? ⟨b, 10, none⟩ = some (.string s.uid) := by rw [cell_of_row _ _ _ _ _ _ r9]; rfl
  clear hw hk r9 W8 R8
  generalize hx : (X8.text s.name.data.toList) = X9 at *
  have HX9 := Lib.hid hx
  clear hx
  go_wp2_with fail
  clear c10
  refine (W9.out.call (fun _ _ h => vtext_any h s.uid (HZ.out _ (by simp [StatP.texts])))).mono ?_; rintro e w10 ⟨rfl, hw, hk⟩
  have r10 := (hk _ (Or.inr rfl)).trans R9.out
  have W10 := Lib.hid hw
  have R10 := Lib.hid r10
  have c11 : w10.cell? ⟨b, 11, none⟩ = some (.string s.gid) := by rw [cell_of_row _ _ _ _ _ _ r10]; rfl
  clear hw hk r10 W9 R9
  generalize hx : (X9.text s.uid.data.toList) = X10 at *
  have HX10 := Lib.hid hx
  clear hx
  go_wp2_with fail
  clear c11
  refine (W10.out.call (fun _ _ h => vtext_any h s.gid (HZ.out _ (by simp [StatP.texts])))).mono ?_; rintro e w11 ⟨rfl, hw, hk⟩
  have r11 := (hk _ (Or.inr rfl)).trans R10.out
  have W11 := Lib.hid hw
  have R11 := Lib.hid r11
  have c12 : w11.cell? ⟨b, 12, none⟩ = some (.string s.muid) := by rw [cell_of_row _ _ _ _ _ _ r11]; rfl
  clear hw hk r11 W10 R10
  generalize hx : (X10.text s.gid.data.toList) = X11 at *
  have HX11 := Lib.hid hx
  clear hx
  go_wp2_with fail
  clear c12
  refine (W11.out.call (fun _ _ h => vtext_any h s.muid (HZ.out _ (by simp [StatP.texts])))).mono ?_; rintro e w12 ⟨rfl, hw, hk⟩
  have r12 := (hk _ (Or.inr rfl)).trans R11.out
  have W12 := Lib.hid hw
  have R12 := Lib.hid r12
  clear hw hk r12 W11 R11
  generalize hx : (X11.text s.muid.data.toList) = X12 at *
  have HX12 := Lib.hid hx
  clear hx
  generalize hpp : (place : Int) = q at *
  have HPP := Lib.hid hpp
  clear hpp
  go_wp2_with fail
  refine (W12.out.call (fun _ _ h => vshut_any h q)).mono ?_; rintro e w13 ⟨rfl, hw, -⟩
  have W13 := Lib.hid hw
  clear hw
  go_wp2_with fail
  go_end0
  refine ⟨rfl, ?_⟩
  rw [HX1.out, HX2.out, HX3.out, HX4.out, HX5.out, HX6.out, HX7.out, HX8.out, HX9.out, HX10.out, HX11.out, HX12.out, HPL.out, HPP.out]
  exact W13.out.post
end Go.Proofs.YtnpokdbpmnkbjaaGreatDoor
