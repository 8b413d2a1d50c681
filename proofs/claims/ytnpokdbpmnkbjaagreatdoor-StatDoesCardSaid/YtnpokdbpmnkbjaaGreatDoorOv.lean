/- stat.Over, vergerlaw02's parts. (Printed by wip/bin/genover.py.) -/
import Derived.Test.YtnpokdbpmnkbjaaGreatDoorTb
namespace Go.Proofs.YtnpokdbpmnkbjaaGreatDoor
open Go.RowKit Me

theorem sel_int (b : Bool) (k : IntKind) (x y : Nat) : sel b (Value.int k (x : Int)) (.int k (y : Int)) = .int k ((sel b x y : Nat) : Int) := by cases b <;> rfl
theorem sel_str (b : Bool) (x y : ByteArray) : sel b (Value.string x) (.string y) = .string (sel b x y) := by cases b <;> rfl
theorem sel_row {w : World} {g i : Nat} {cs : Array Value} {t : TypeId} {b : Bool} {v old new : Value} (h : w.heap[g]? = some (.cells cs t (0, 0))) (hold : cs[i]? = some old) (hn : sel b v old = new) :
    (sel b (w.setCell ⟨g, i, none⟩ v) w).heap[g]? = some (.cells (cs.setIfInBounds i new) t (0, 0)) := by
  cases b
  · have hn' : old = new := hn
    subst hn'
    have e : cs.setIfInBounds i old = cs := by
      obtain ⟨hi, ho⟩ := Array.getElem?_eq_some_iff.1 hold
      apply Array.ext_getElem?
      intro j
      rw [Array.getElem?_setIfInBounds]
      by_cases hj : i = j
      · subst hj
        simp [hi, ho]
      · simp [hj]
    rw [e]
    exact h
  · have hn' : v = new := hn
    subst hn'
    exact heap_setCell_same w g i cs t v h
theorem sel_other {w : World} {g i k : Nat} {b : Bool} {v : Value} (h : k ≠ g) : (sel b (w.setCell ⟨g, i, none⟩ v) w).heap[k]? = w.heap[k]? := by
  cases b
  · rfl
  · exact heap_setCell_other w ⟨g, i, none⟩ k v h
theorem sel_mods {F : List Nat} {w0 w : World} {g i : Nat} {b : Bool} {v : Value} (h : Mods F w0 w) (hg : g ∈ F ∨ w0.heap.size ≤ g) : Mods F w0 (sel b (w.setCell ⟨g, i, none⟩ v) w) := by
  cases b
  · exact h
  · exact h.setCell (p := ⟨g, i, none⟩) hg v
theorem touched_bit (a h : StatP) (i : Nat) {b : Bool} (hi : (touch a h)[i]? = some b) (hlt : i < 13) : (bits .and .u16 (touched a h : Int) ((2 ^ i : Nat) : Int) != 0) = b := by
  have hl := touched_lt a h
  rw [bit_and (touched a h) i (by omega) hlt]
  unfold touched
  rw [maskL_bit, hi]
  cases b <;> simp
set_option maxRecDepth 100000 in
set_option maxHeartbeats 2000000 in
theorem over_any (a h : StatP) (w : World) : Calls Tryz.prog 40 #[.agg (statV a), .agg (statV h)] w fun e w' => e = .returned (.agg (statV (overS a h))) ∧ Mods [] w w' := by
  have M0 := Lib.hid ((((Mods.refl [] w).alloc (.cells (statV a) 35)).alloc (.cells (statV h) 35)).alloc (.cells zeroV 35))
  have hA := (Go.heap_alloc_old ((w.alloc (.cells (statV a) 35)).alloc (.cells (statV h) 35)) (.cells zeroV 35) (by simp; omega)).trans ((Go.heap_alloc_old (w.alloc (.cells (statV a) 35)) (.cells (statV h) 35) (by simp)).trans (heap_alloc_new w (.cells (statV a) 35)))
  have hB := (Go.heap_alloc_old ((w.alloc (.cells (statV a) 35)).alloc (.cells (statV h) 35)) (.cells zeroV 35) (by simp)).trans (heap_alloc_new (w.alloc (.cells (statV a) 35)) (.cells (statV h) 35))
  have hZ := heap_alloc_new ((w.alloc (.cells (statV a) 35)).alloc (.cells (statV h) 35)) (.cells zeroV 35)
  simp only [World.size_alloc] at hB hZ
  have A0 := Lib.hid hA
  have B0 := Lib.hid hB
  have Z0 := Lib.hid hZ
  clear hA hB hZ
  have Q0 : Hid ((bits .and .u16 (touched a h : Int) 1 != 0) = askN a.typ keepS.typ h.typ) := Lib.hid (touched_bit a h 0 rfl (by omega))
  have Q1 : Hid ((bits .and .u16 (touched a h : Int) 2 != 0) = askN a.dev keepS.dev h.dev) := Lib.hid (touched_bit a h 1 rfl (by omega))
  have Q2 : Hid ((bits .and .u16 (touched a h : Int) 4 != 0) = askN a.qid.kind keepS.qid.kind h.qid.kind) := Lib.hid (touched_bit a h 2 rfl (by omega))
  have Q3 : Hid ((bits .and .u16 (touched a h : Int) 8 != 0) = askN a.qid.vers keepS.qid.vers h.qid.vers) := Lib.hid (touched_bit a h 3 rfl (by omega))
  have Q4 : Hid ((bits .and .u16 (touched a h : Int) 16 != 0) = askN a.qid.path keepS.qid.path h.qid.path) := Lib.hid (touched_bit a h 4 rfl (by omega))
  have Q5 : Hid ((bits .and .u16 (touched a h : Int) 32 != 0) = askN a.mode keepS.mode h.mode) := Lib.hid (touched_bit a h 5 rfl (by omega))
  have Q6 : Hid ((bits .and .u16 (touched a h : Int) 64 != 0) = askN a.atime keepS.atime h.atime) := Lib.hid (touched_bit a h 6 rfl (by omega))
  have Q7 : Hid ((bits .and .u16 (touched a h : Int) 128 != 0) = askN a.mtime keepS.mtime h.mtime) := Lib.hid (touched_bit a h 7 rfl (by omega))
  have Q8 : Hid ((bits .and .u16 (touched a h : Int) 256 != 0) = askN a.length keepS.length h.length) := Lib.hid (touched_bit a h 8 rfl (by omega))
  have Q9 : Hid ((bits .and .u16 (touched a h : Int) 512 != 0) = askT a.name keepS.name h.name) := Lib.hid (touched_bit a h 9 rfl (by omega))
  have Q10 : Hid ((bits .and .u16 (touched a h : Int) 1024 != 0) = askT a.uid keepS.uid h.uid) := Lib.hid (touched_bit a h 10 rfl (by omega))
  have Q11 : Hid ((bits .and .u16 (touched a h : Int) 2048 != 0) = askT a.gid keepS.gid h.gid) := Lib.hid (touched_bit a h 11 rfl (by omega))
  have Q12 : Hid ((bits .and .u16 (touched a h : Int) 4096 != 0) = askT a.muid keepS.muid h.muid) := Lib.hid (touched_bit a h 12 rfl (by omega))
  unfold statV
  go_enter Tryz.func40, Tryz.ntmps40
  go_wp2_with fail
  refine (touched_any a h _).mono ?_; rintro e w1 ⟨rfl, hm⟩
  have M1 := Lib.hid (M0.out.trans hm (by simp))
  have A1 := Lib.hid (hm.heap A0.out (by simp))
  have B1 := Lib.hid (hm.heap B0.out (by simp))
  have Z1 := Lib.hid (hm.heap Z0.out (by simp))
  clear hm A0 B0 Z0 M0
  have hba : w.heap.size ≠ w.heap.size + 1 := by omega
  have hbz : w.heap.size + 1 + 1 ≠ w.heap.size + 1 := by omega
  have hwb : w.heap.size ≤ w.heap.size + 1 := by omega
  generalize hbz' : w.heap.size + 1 + 1 = bz at *
  generalize hbh : w.heap.size + 1 = bh at *
  generalize hba' : w.heap.size = ba at *
  have HBA := Lib.hid hba
  have HBZ := Lib.hid hbz
  have HWB := Lib.hid (show w.heap.size ≤ bh by omega)
  have HZW := Lib.hid (show w.heap.size ≤ bz by omega)
  clear hba hbz hbh hwb hbz'
  have HW0 := Lib.hid hba'
  clear hba'
  generalize (touched a h : Int) = F at *
  have c0 : w1.cell? ⟨ba, 0, none⟩ = some (.int .u16 (a.typ : Int)) := (cell_of_row _ _ _ _ _ _ A1.out).trans rfl
  go_wp2_with fail
  refine (put_u16 F 1 _ Q0.out ⟨bh, 0, none⟩ (a.typ : Int) (h.typ : Int) w1 ((cell_of_row _ _ _ _ _ _ B1.out).trans rfl) (frozen_of_row _ _ _ _ _ B1.out)).mono ?_; rintro e w2 ⟨rfl, hs⟩
  have hb : w2.heap[bh]? = some (.cells #[.int .u16 ((overS a h).typ : Int), .int .u32 (h.dev : Int), .int .u8 (h.qid.kind : Int), .int .u32 (h.qid.vers : Int), .int .u64 (h.qid.path : Int), .int .u32 (h.mode : Int), .int .u32 (h.atime : Int), .int .u32 (h.mtime : Int), .int .u64 (h.length : Int), .string h.name, .string h.uid, .string h.gid, .string h.muid] 35 (0, 0)) := by rw [← hs]; exact sel_row B1.out (i := 0) rfl (sel_int _ _ _ _)
  have B2 := Lib.hid hb
  have A2 := Lib.hid (show w2.heap[ba]? = some (.cells (statV a) 35 (0, 0)) from (by rw [← hs]; exact (sel_other HBA.out).trans A1.out))
  have Z2 := Lib.hid (show w2.heap[bz]? = some (.cells zeroV 35 (0, 0)) from (by rw [← hs]; exact (sel_other HBZ.out).trans Z1.out))
  have M2 := Lib.hid (show Mods [] w w2 from (by rw [← hs]; exact sel_mods M1.out (Or.inr HWB.out)))
  clear hs hb c0 A1 B1 Z1 M1
  have c1 : w2.cell? ⟨ba, 1, none⟩ = some (.int .u32 (a.dev : Int)) := (cell_of_row _ _ _ _ _ _ A2.out).trans rfl
  go_wp2_with fail
  refine (put_u32 F 2 _ Q1.out ⟨bh, 1, none⟩ (a.dev : Int) (h.dev : Int) w2 ((cell_of_row _ _ _ _ _ _ B2.out).trans rfl) (frozen_of_row _ _ _ _ _ B2.out)).mono ?_; rintro e w3 ⟨rfl, hs⟩
  have hb : w3.heap[bh]? = some (.cells #[.int .u16 ((overS a h).typ : Int), .int .u32 ((overS a h).dev : Int), .int .u8 (h.qid.kind : Int), .int .u32 (h.qid.vers : Int), .int .u64 (h.qid.path : Int), .int .u32 (h.mode : Int), .int .u32 (h.atime : Int), .int .u32 (h.mtime : Int), .int .u64 (h.length : Int), .string h.name, .string h.uid, .string h.gid, .string h.muid] 35 (0, 0)) := by rw [← hs]; exact sel_row B2.out (i := 1) rfl (sel_int _ _ _ _)
  have B3 := Lib.hid hb
  have A3 := Lib.hid (show w3.heap[ba]? = some (.cells (statV a) 35 (0, 0)) from (by rw [← hs]; exact (sel_other HBA.out).trans A2.out))
  have Z3 := Lib.hid (show w3.heap[bz]? = some (.cells zeroV 35 (0, 0)) from (by rw [← hs]; exact (sel_other HBZ.out).trans Z2.out))
  have M3 := Lib.hid (show Mods [] w w3 from (by rw [← hs]; exact sel_mods M2.out (Or.inr HWB.out)))
  clear hs hb c1 A2 B2 Z2 M2
  have c2 : w3.cell? ⟨ba, 2, none⟩ = some (.int .u8 (a.qid.kind : Int)) := (cell_of_row _ _ _ _ _ _ A3.out).trans rfl
  go_wp2_with fail
  refine (put_u8 F 4 _ Q2.out ⟨bh, 2, none⟩ (a.qid.kind : Int) (h.qid.kind : Int) w3 ((cell_of_row _ _ _ _ _ _ B3.out).trans rfl) (frozen_of_row _ _ _ _ _ B3.out)).mono ?_; rintro e w4 ⟨rfl, hs⟩
  have hb : w4.heap[bh]? = some (.cells #[.int .u16 ((overS a h).typ : Int), .int .u32 ((overS a h).dev : Int), .int .u8 ((overS a h).qid.kind : Int), .int .u32 (h.qid.vers : Int), .int .u64 (h.qid.path : Int), .int .u32 (h.mode : Int), .int .u32 (h.atime : Int), .int .u32 (h.mtime : Int), .int .u64 (h.length : Int), .string h.name, .string h.uid, .string h.gid, .string h.muid] 35 (0, 0)) := by rw [← hs]; exact sel_row B3.out (i := 2) rfl (sel_int _ _ _ _)
  have B4 := Lib.hid hb
  have A4 := Lib.hid (show w4.heap[ba]? = some (.cells (statV a) 35 (0, 0)) from (by rw [← hs]; exact (sel_other HBA.out).trans A3.out))
  have Z4 := Lib.hid (show w4.heap[bz]? = some (.cells zeroV 35 (0, 0)) from (by rw [← hs]; exact (sel_other HBZ.out).trans Z3.out))
  have M4 := Lib.hid (show Mods [] w w4 from (by rw [← hs]; exact sel_mods M3.out (Or.inr HWB.out)))
  clear hs hb c2 A3 B3 Z3 M3
  have c3 : w4.cell? ⟨ba, 3, none⟩ = some (.int .u32 (a.qid.vers : Int)) := (cell_of_row _ _ _ _ _ _ A4.out).trans rfl
  go_wp2_with fail
  refine (put_u32 F 8 _ Q3.out ⟨bh, 3, none⟩ (a.qid.vers : Int) (h.qid.vers : Int) w4 ((cell_of_row _ _ _ _ _ _ B4.out).trans rfl) (frozen_of_row _ _ _ _ _ B4.out)).mono ?_; rintro e w5 ⟨rfl, hs⟩
  have hb : w5.heap[bh]? = some (.cells #[.int .u16 ((overS a h).typ : Int), .int .u32 ((overS a h).dev : Int), .int .u8 ((overS a h).qid.kind : Int), .int .u32 ((overS a h).qid.vers : Int), .int .u64 (h.qid.path : Int), .int .u32 (h.mode : Int), .int .u32 (h.atime : Int), .int .u32 (h.mtime : Int), .int .u64 (h.length : Int), .string h.name, .string h.uid, .string h.gid, .string h.muid] 35 (0, 0)) := by rw [← hs]; exact sel_row B4.out (i := 3) rfl (sel_int _ _ _ _)
  have B5 := Lib.hid hb
  have A5 := Lib.hid (show w5.heap[ba]? = some (.cells (statV a) 35 (0, 0)) from (by rw [← hs]; exact (sel_other HBA.out).trans A4.out))
  have Z5 := Lib.hid (show w5.heap[bz]? = some (.cells zeroV 35 (0, 0)) from (by rw [← hs]; exact (sel_other HBZ.out).trans Z4.out))
  have M5 := Lib.hid (show Mods [] w w5 from (by rw [← hs]; exact sel_mods M4.out (Or.inr HWB.out)))
  clear hs hb c3 A4 B4 Z4 M4
  have c4 : w5.cell? ⟨ba, 4, none⟩ = some (.int .u64 (a.qid.path : Int)) := (cell_of_row _ _ _ _ _ _ A5.out).trans rfl
  go_wp2_with fail
  refine (put_u64 F 16 _ Q4.out ⟨bh, 4, none⟩ (a.qid.path : Int) (h.qid.path : Int) w5 ((cell_of_row _ _ _ _ _ _ B5.out).trans rfl) (frozen_of_row _ _ _ _ _ B5.out)).mono ?_; rintro e w6 ⟨rfl, hs⟩
  have hb : w6.heap[bh]? = some (.cells #[.int .u16 ((overS a h).typ : Int), .int .u32 ((overS a h).dev : Int), .int .u8 ((overS a h).qid.kind : Int), .int .u32 ((overS a h).qid.vers : Int), .int .u64 ((overS a h).qid.path : Int), .int .u32 (h.mode : Int), .int .u32 (h.atime : Int), .int .u32 (h.mtime : Int), .int .u64 (h.length : Int), .string h.name, .string h.uid, .string h.gid, .string h.muid] 35 (0, 0)) := by rw [← hs]; exact sel_row B5.out (i := 4) rfl (sel_int _ _ _ _)
  have B6 := Lib.hid hb
  have A6 := Lib.hid (show w6.heap[ba]? = some (.cells (statV a) 35 (0, 0)) from (by rw [← hs]; exact (sel_other HBA.out).trans A5.out))
  have Z6 := Lib.hid (show w6.heap[bz]? = some (.cells zeroV 35 (0, 0)) from (by rw [← hs]; exact (sel_other HBZ.out).trans Z5.out))
  have M6 := Lib.hid (show Mods [] w w6 from (by rw [← hs]; exact sel_mods M5.out (Or.inr HWB.out)))
  clear hs hb c4 A5 B5 Z5 M5
  have c5 : w6.cell? ⟨ba, 5, none⟩ = some (.int .u32 (a.mode : Int)) := (cell_of_row _ _ _ _ _ _ A6.out).trans rfl
  go_wp2_with fail
  refine (put_u32 F 32 _ Q5.out ⟨bh, 5, none⟩ (a.mode : Int) (h.mode : Int) w6 ((cell_of_row _ _ _ _ _ _ B6.out).trans rfl) (frozen_of_row _ _ _ _ _ B6.out)).mono ?_; rintro e w7 ⟨rfl, hs⟩
  have hb : w7.heap[bh]? = some (.cells #[.int .u16 ((overS a h).typ : Int), .int .u32 ((overS a h).dev : Int), .int .u8 ((overS a h).qid.kind : Int), .int .u32 ((overS a h).qid.vers : Int), .int .u64 ((overS a h).qid.path : Int), .int .u32 ((overS a h).mode : Int), .int .u32 (h.atime : Int), .int .u32 (h.mtime : Int), .int .u64 (h.length : Int), .string h.name, .string h.uid, .string h.gid, .string h.muid] 35 (0, 0)) := by rw [← hs]; exact sel_row B6.out (i := 5) rfl (sel_int _ _ _ _)
  have B7 := Lib.hid hb
  have A7 := Lib.hid (show w7.heap[ba]? = some (.cells (statV a) 35 (0, 0)) from (by rw [← hs]; exact (sel_other HBA.out).trans A6.out))
  have Z7 := Lib.hid (show w7.heap[bz]? = some (.cells zeroV 35 (0, 0)) from (by rw [← hs]; exact (sel_other HBZ.out).trans Z6.out))
  have M7 := Lib.hid (show Mods [] w w7 from (by rw [← hs]; exact sel_mods M6.out (Or.inr HWB.out)))
  clear hs hb c5 A6 B6 Z6 M6
  have c6 : w7.cell? ⟨ba, 6, none⟩ = some (.int .u32 (a.atime : Int)) := (cell_of_row _ _ _ _ _ _ A7.out).trans rfl
  go_wp2_with fail
  refine (put_u32 F 64 _ Q6.out ⟨bh, 6, none⟩ (a.atime : Int) (h.atime : Int) w7 ((cell_of_row _ _ _ _ _ _ B7.out).trans rfl) (frozen_of_row _ _ _ _ _ B7.out)).mono ?_; rintro e w8 ⟨rfl, hs⟩
  have hb : w8.heap[bh]? = some (.cells #[.int .u16 ((overS a h).typ : Int), .int .u32 ((overS a h).dev : Int), .int .u8 ((overS a h).qid.kind : Int), .int .u32 ((overS a h).qid.vers : Int), .int .u64 ((overS a h).qid.path : Int), .int .u32 ((overS a h).mode : Int), .int .u32 ((overS a h).atime : Int), .int .u32 (h.mtime : Int), .int .u64 (h.length : Int), .string h.name, .string h.uid, .string h.gid, .string h.muid] 35 (0, 0)) := by rw [← hs]; exact sel_row B7.out (i := 6) rfl (sel_int _ _ _ _)
  have B8 := Lib.hid hb
  have A8 := Lib.hid (show w8.heap[ba]? = some (.cells (statV a) 35 (0, 0)) from (by rw [← hs]; exact (sel_other HBA.out).trans A7.out))
  have Z8 := Lib.hid (show w8.heap[bz]? = some (.cells zeroV 35 (0, 0)) from (by rw [← hs]; exact (sel_other HBZ.out).trans Z7.out))
  have M8 := Lib.hid (show Mods [] w w8 from (by rw [← hs]; exact sel_mods M7.out (Or.inr HWB.out)))
  clear hs hb c6 A7 B7 Z7 M7
  have c7 : w8.cell? ⟨ba, 7, none⟩ = some (.int .u32 (a.mtime : Int)) := (cell_of_row _ _ _ _ _ _ A8.out).trans rfl
  go_wp2_with fail
  refine (put_u32 F 128 _ Q7.out ⟨bh, 7, none⟩ (a.mtime : Int) (h.mtime : Int) w8 ((cell_of_row _ _ _ _ _ _ B8.out).trans rfl) (frozen_of_row _ _ _ _ _ B8.out)).mono ?_; rintro e w9 ⟨rfl, hs⟩
  have hb : w9.heap[bh]? = some (.cells #[.int .u16 ((overS a h).typ : Int), .int .u32 ((overS a h).dev : Int), .int .u8 ((overS a h).qid.kind : Int), .int .u32 ((overS a h).qid.vers : Int), .int .u64 ((overS a h).qid.path : Int), .int .u32 ((overS a h).mode : Int), .int .u32 ((overS a h).atime : Int), .int .u32 ((overS a h).mtime : Int), .int .u64 (h.length : Int), .string h.name, .string h.uid, .string h.gid, .string h.muid] 35 (0, 0)) := by rw [← hs]; exact sel_row B8.out (i := 7) rfl (sel_int _ _ _ _)
  have B9 := Lib.hid hb
  have A9 := Lib.hid (show w9.heap[ba]? = some (.cells (statV a) 35 (0, 0)) from (by rw [← hs]; exact (sel_other HBA.out).trans A8.out))
  have Z9 := Lib.hid (show w9.heap[bz]? = some (.cells zeroV 35 (0, 0)) from (by rw [← hs]; exact (sel_other HBZ.out).trans Z8.out))
  have M9 := Lib.hid (show Mods [] w w9 from (by rw [← hs]; exact sel_mods M8.out (Or.inr HWB.out)))
  clear hs hb c7 A8 B8 Z8 M8
  have c8 : w9.cell? ⟨ba, 8, none⟩ = some (.int .u64 (a.length : Int)) := (cell_of_row _ _ _ _ _ _ A9.out).trans rfl
  go_wp2_with fail
  refine (put_u64 F 256 _ Q8.out ⟨bh, 8, none⟩ (a.length : Int) (h.length : Int) w9 ((cell_of_row _ _ _ _ _ _ B9.out).trans rfl) (frozen_of_row _ _ _ _ _ B9.out)).mono ?_; rintro e w10 ⟨rfl, hs⟩
  have hb : w10.heap[bh]? = some (.cells #[.int .u16 ((overS a h).typ : Int), .int .u32 ((overS a h).dev : Int), .int .u8 ((overS a h).qid.kind : Int), .int .u32 ((overS a h).qid.vers : Int), .int .u64 ((overS a h).qid.path : Int), .int .u32 ((overS a h).mode : Int), .int .u32 ((overS a h).atime : Int), .int .u32 ((overS a h).mtime : Int), .int .u64 ((overS a h).length : Int), .string h.name, .string h.uid, .string h.gid, .string h.muid] 35 (0, 0)) := by rw [← hs]; exact sel_row B9.out (i := 8) rfl (sel_int _ _ _ _)
  have B10 := Lib.hid hb
  have A10 := Lib.hid (show w10.heap[ba]? = some (.cells (statV a) 35 (0, 0)) from (by rw [← hs]; exact (sel_other HBA.out).trans A9.out))
  have Z10 := Lib.hid (show w10.heap[bz]? = some (.cells zeroV 35 (0, 0)) from (by rw [← hs]; exact (sel_other HBZ.out).trans Z9.out))
  have M10 := Lib.hid (show Mods [] w w10 from (by rw [← hs]; exact sel_mods M9.out (Or.inr HWB.out)))
  clear hs hb c8 A9 B9 Z9 M9
  have c9 : w10.cell? ⟨ba, 9, none⟩ = some (.string a.name) := (cell_of_row _ _ _ _ _ _ A10.out).trans rfl
  go_wp2_with fail
  refine (put_s F 512 _ Q9.out ⟨bh, 9, none⟩ a.name h.name w10 ((cell_of_row _ _ _ _ _ _ B10.out).trans rfl) (frozen_of_row _ _ _ _ _ B10.out)).mono ?_; rintro e w11 ⟨rfl, hs⟩
  have hb : w11.heap[bh]? = some (.cells #[.int .u16 ((overS a h).typ : Int), .int .u32 ((overS a h).dev : Int), .int .u8 ((overS a h).qid.kind : Int), .int .u32 ((overS a h).qid.vers : Int), .int .u64 ((overS a h).qid.path : Int), .int .u32 ((overS a h).mode : Int), .int .u32 ((overS a h).atime : Int), .int .u32 ((overS a h).mtime : Int), .int .u64 ((overS a h).length : Int), .string (overS a h).name, .string h.uid, .string h.gid, .string h.muid] 35 (0, 0)) := by rw [← hs]; exact sel_row B10.out (i := 9) rfl (sel_str _ _ _)
  have B11 := Lib.hid hb
  have A11 := Lib.hid (show w11.heap[ba]? = some (.cells (statV a) 35 (0, 0)) from (by rw [← hs]; exact (sel_other HBA.out).trans A10.out))
  have Z11 := Lib.hid (show w11.heap[bz]? = some (.cells zeroV 35 (0, 0)) from (by rw [← hs]; exact (sel_other HBZ.out).trans Z10.out))
  have M11 := Lib.hid (show Mods [] w w11 from (by rw [← hs]; exact sel_mods M10.out (Or.inr HWB.out)))
  clear hs hb c9 A10 B10 Z10 M10
  have c10 : w11.cell? ⟨ba, 10, none⟩ = some (.string a.uid) := (cell_of_row _ _ _ _ _ _ A11.out).trans rfl
  go_wp2_with fail
  refine (put_s F 1024 _ Q10.out ⟨bh, 10, none⟩ a.uid h.uid w11 ((cell_of_row _ _ _ _ _ _ B11.out).trans rfl) (frozen_of_row _ _ _ _ _ B11.out)).mono ?_; rintro e w12 ⟨rfl, hs⟩
  have hb : w12.heap[bh]? = some (.cells #[.int .u16 ((overS a h).typ : Int), .int .u32 ((overS a h).dev : Int), .int .u8 ((overS a h).qid.kind : Int), .int .u32 ((overS a h).qid.vers : Int), .int .u64 ((overS a h).qid.path : Int), .int .u32 ((overS a h).mode : Int), .int .u32 ((overS a h).atime : Int), .int .u32 ((overS a h).mtime : Int), .int .u64 ((overS a h).length : Int), .string (overS a h).name, .string (overS a h).uid, .string h.gid, .string h.muid] 35 (0, 0)) := by rw [← hs]; exact sel_row B11.out (i := 10) rfl (sel_str _ _ _)
  have B12 := Lib.hid hb
  have A12 := Lib.hid (show w12.heap[ba]? = some (.cells (statV a) 35 (0, 0)) from (by rw [← hs]; exact (sel_other HBA.out).trans A11.out))
  have Z12 := Lib.hid (show w12.heap[bz]? = some (.cells zeroV 35 (0, 0)) from (by rw [← hs]; exact (sel_other HBZ.out).trans Z11.out))
  have M12 := Lib.hid (show Mods [] w w12 from (by rw [← hs]; exact sel_mods M11.out (Or.inr HWB.out)))
  clear hs hb c10 A11 B11 Z11 M11
  have c11 : w12.cell? ⟨ba, 11, none⟩ = some (.string a.gid) := (cell_of_row _ _ _ _ _ _ A12.out).trans rfl
  go_wp2_with fail
  refine (put_s F 2048 _ Q11.out ⟨bh, 11, none⟩ a.gid h.gid w12 ((cell_of_row _ _ _ _ _ _ B12.out).trans rfl) (frozen_of_row _ _ _ _ _ B12.out)).mono ?_; rintro e w13 ⟨rfl, hs⟩
  have hb : w13.heap[bh]? = some (.cells #[.int .u16 ((overS a h).typ : Int), .int .u32 ((overS a h).dev : Int), .int .u8 ((overS a h).qid.kind : Int), .int .u32 ((overS a h).qid.vers : Int), .int .u64 ((overS a h).qid.path : Int), .int .u32 ((overS a h).mode : Int), .int .u32 ((overS a h).atime : Int), .int .u32 ((overS a h).mtime : Int), .int .u64 ((overS a h).length : Int), .string (overS a h).name, .string (overS a h).uid, .string (overS a h).gid, .string h.muid] 35 (0, 0)) := by rw [← hs]; exact sel_row B12.out (i := 11) rfl (sel_str _ _ _)
  have B13 := Lib.hid hb
  have A13 := Lib.hid (show w13.heap[ba]? = some (.cells (statV a) 35 (0, 0)) from (by rw [← hs]; exact (sel_other HBA.out).trans A12.out))
  have Z13 := Lib.hid (show w13.heap[bz]? = some (.cells zeroV 35 (0, 0)) from (by rw [← hs]; exact (sel_other HBZ.out).trans Z12.out))
  have M13 := Lib.hid (show Mods [] w w13 from (by rw [← hs]; exact sel_mods M12.out (Or.inr HWB.out)))
  clear hs hb c11 A12 B12 Z12 M12
  have c12 : w13.cell? ⟨ba, 12, none⟩ = some (.string a.muid) := (cell_of_row _ _ _ _ _ _ A13.out).trans rfl
  go_wp2_with fail
  refine (put_s F 4096 _ Q12.out ⟨bh, 12, none⟩ a.muid h.muid w13 ((cell_of_row _ _ _ _ _ _ B13.out).trans rfl) (frozen_of_row _ _ _ _ _ B13.out)).mono ?_; rintro e w14 ⟨rfl, hs⟩
  have hb : w14.heap[bh]? = some (.cells #[.int .u16 ((overS a h).typ : Int), .int .u32 ((overS a h).dev : Int), .int .u8 ((overS a h).qid.kind : Int), .int .u32 ((overS a h).qid.vers : Int), .int .u64 ((overS a h).qid.path : Int), .int .u32 ((overS a h).mode : Int), .int .u32 ((overS a h).atime : Int), .int .u32 ((overS a h).mtime : Int), .int .u64 ((overS a h).length : Int), .string (overS a h).name, .string (overS a h).uid, .string (overS a h).gid, .string (overS a h).muid] 35 (0, 0)) := by rw [← hs]; exact sel_row B13.out (i := 12) rfl (sel_str _ _ _)
  have B14 := Lib.hid hb
  have A14 := Lib.hid (show w14.heap[ba]? = some (.cells (statV a) 35 (0, 0)) from (by rw [← hs]; exact (sel_other HBA.out).trans A13.out))
  have Z14 := Lib.hid (show w14.heap[bz]? = some (.cells zeroV 35 (0, 0)) from (by rw [← hs]; exact (sel_other HBZ.out).trans Z13.out))
  have M14 := Lib.hid (show Mods [] w w14 from (by rw [← hs]; exact sel_mods M13.out (Or.inr HWB.out)))
  clear hs hb c12 A13 B13 Z13 M13
  have c0 : (w14).cell? ⟨bh, 0, none⟩ = some (.int .u16 ((overS a h).typ : Int)) := (cell_of_row _ _ _ _ _ _ B14.out).trans rfl
  have c1 : (w14).cell? ⟨bh, 1, none⟩ = some (.int .u32 ((overS a h).dev : Int)) := (cell_of_row _ _ _ _ _ _ B14.out).trans rfl
  have c2 : (w14).cell? ⟨bh, 2, none⟩ = some (.int .u8 ((overS a h).qid.kind : Int)) := (cell_of_row _ _ _ _ _ _ B14.out).trans rfl
  have c3 : (w14).cell? ⟨bh, 3, none⟩ = some (.int .u32 ((overS a h).qid.vers : Int)) := (cell_of_row _ _ _ _ _ _ B14.out).trans rfl
  have c4 : (w14).cell? ⟨bh, 4, none⟩ = some (.int .u64 ((overS a h).qid.path : Int)) := (cell_of_row _ _ _ _ _ _ B14.out).trans rfl
  have c5 : (w14).cell? ⟨bh, 5, none⟩ = some (.int .u32 ((overS a h).mode : Int)) := (cell_of_row _ _ _ _ _ _ B14.out).trans rfl
  have c6 : (w14).cell? ⟨bh, 6, none⟩ = some (.int .u32 ((overS a h).atime : Int)) := (cell_of_row _ _ _ _ _ _ B14.out).trans rfl
  have c7 : (w14).cell? ⟨bh, 7, none⟩ = some (.int .u32 ((overS a h).mtime : Int)) := (cell_of_row _ _ _ _ _ _ B14.out).trans rfl
  have c8 : (w14).cell? ⟨bh, 8, none⟩ = some (.int .u64 ((overS a h).length : Int)) := (cell_of_row _ _ _ _ _ _ B14.out).trans rfl
  have c9 : (w14).cell? ⟨bh, 9, none⟩ = some (.string (overS a h).name) := (cell_of_row _ _ _ _ _ _ B14.out).trans rfl
  have c10 : (w14).cell? ⟨bh, 10, none⟩ = some (.string (overS a h).uid) := (cell_of_row _ _ _ _ _ _ B14.out).trans rfl
  have c11 : (w14).cell? ⟨bh, 11, none⟩ = some (.string (overS a h).gid) := (cell_of_row _ _ _ _ _ _ B14.out).trans rfl
  have c12 : (w14).cell? ⟨bh, 12, none⟩ = some (.string (overS a h).muid) := (cell_of_row _ _ _ _ _ _ B14.out).trans rfl
  have d0 : (w14).cell? ⟨bz, 0, none⟩ = some (.int .u16 0) := (cell_of_row _ _ _ _ _ _ Z14.out).trans rfl
  have d1 : (w14).cell? ⟨bz, 1, none⟩ = some (.int .u32 0) := (cell_of_row _ _ _ _ _ _ Z14.out).trans rfl
  have d2 : (w14).cell? ⟨bz, 2, none⟩ = some (.int .u8 0) := (cell_of_row _ _ _ _ _ _ Z14.out).trans rfl
  have d3 : (w14).cell? ⟨bz, 3, none⟩ = some (.int .u32 0) := (cell_of_row _ _ _ _ _ _ Z14.out).trans rfl
  have d4 : (w14).cell? ⟨bz, 4, none⟩ = some (.int .u64 0) := (cell_of_row _ _ _ _ _ _ Z14.out).trans rfl
  have d5 : (w14).cell? ⟨bz, 5, none⟩ = some (.int .u32 0) := (cell_of_row _ _ _ _ _ _ Z14.out).trans rfl
  have d6 : (w14).cell? ⟨bz, 6, none⟩ = some (.int .u32 0) := (cell_of_row _ _ _ _ _ _ Z14.out).trans rfl
  have d7 : (w14).cell? ⟨bz, 7, none⟩ = some (.int .u32 0) := (cell_of_row _ _ _ _ _ _ Z14.out).trans rfl
  have d8 : (w14).cell? ⟨bz, 8, none⟩ = some (.int .u64 0) := (cell_of_row _ _ _ _ _ _ Z14.out).trans rfl
  have d9 : (w14).cell? ⟨bz, 9, none⟩ = some (.string ⟨#[]⟩) := (cell_of_row _ _ _ _ _ _ Z14.out).trans rfl
  have d10 : (w14).cell? ⟨bz, 10, none⟩ = some (.string ⟨#[]⟩) := (cell_of_row _ _ _ _ _ _ Z14.out).trans rfl
  have d11 : (w14).cell? ⟨bz, 11, none⟩ = some (.string ⟨#[]⟩) := (cell_of_row _ _ _ _ _ _ Z14.out).trans rfl
  have d12 : (w14).cell? ⟨bz, 12, none⟩ = some (.string ⟨#[]⟩) := (cell_of_row _ _ _ _ _ _ Z14.out).trans rfl
  have f0 : (w14).frozen? ⟨bz, 0, none⟩ = false := frozen_of_row _ _ _ _ _ Z14.out
  have f1 : (w14).frozen? ⟨bz, 1, none⟩ = false := frozen_of_row _ _ _ _ _ Z14.out
  have f2 : (w14).frozen? ⟨bz, 2, none⟩ = false := frozen_of_row _ _ _ _ _ Z14.out
  have f3 : (w14).frozen? ⟨bz, 3, none⟩ = false := frozen_of_row _ _ _ _ _ Z14.out
  have f4 : (w14).frozen? ⟨bz, 4, none⟩ = false := frozen_of_row _ _ _ _ _ Z14.out
  have f5 : (w14).frozen? ⟨bz, 5, none⟩ = false := frozen_of_row _ _ _ _ _ Z14.out
  have f6 : (w14).frozen? ⟨bz, 6, none⟩ = false := frozen_of_row _ _ _ _ _ Z14.out
  have f7 : (w14).frozen? ⟨bz, 7, none⟩ = false := frozen_of_row _ _ _ _ _ Z14.out
  have f8 : (w14).frozen? ⟨bz, 8, none⟩ = false := frozen_of_row _ _ _ _ _ Z14.out
  have f9 : (w14).frozen? ⟨bz, 9, none⟩ = false := frozen_of_row _ _ _ _ _ Z14.out
  have f10 : (w14).frozen? ⟨bz, 10, none⟩ = false := frozen_of_row _ _ _ _ _ Z14.out
  have f11 : (w14).frozen? ⟨bz, 11, none⟩ = false := frozen_of_row _ _ _ _ _ Z14.out
  have f12 : (w14).frozen? ⟨bz, 12, none⟩ = false := frozen_of_row _ _ _ _ _ Z14.out
  generalize hn : overS a h = n at *
  have HN := Lib.hid hn
  clear hn
  go_wp2_with fail
  refine bodyPost_ret (v := .agg #[.int .u16 (n.typ : Int), .int .u32 (n.dev : Int), .int .u8 (n.qid.kind : Int), .int .u32 (n.qid.vers : Int), .int .u64 (n.qid.path : Int), .int .u32 (n.mode : Int), .int .u32 (n.atime : Int), .int .u32 (n.mtime : Int), .int .u64 (n.length : Int), .string n.name, .string n.uid, .string n.gid, .string n.muid]) (by simp [results, Tryz.results40, go_sem, d0, d1, d2, d3, d4, d5, d6, d7, d8, d9, d10, d11, d12]) rfl ?_
  rw [HN.out]
  exact ⟨rfl, (((((((((((((M14.out.setCell (p := ⟨bz, 0, none⟩) (Or.inr HZW.out) (.int .u16 (n.typ : Int))).setCell (p := ⟨bz, 1, none⟩) (Or.inr HZW.out) (.int .u32 (n.dev : Int))).setCell (p := ⟨bz, 2, none⟩) (Or.inr HZW.out) (.int .u8 (n.qid.kind : Int))).setCell (p := ⟨bz, 3, none⟩) (Or.inr HZW.out) (.int .u32 (n.qid.vers : Int))).setCell (p := ⟨bz, 4, none⟩) (Or.inr HZW.out) (.int .u64 (n.qid.path : Int))).setCell (p := ⟨bz, 5, none⟩) (Or.inr HZW.out) (.int .u32 (n.mode : Int))).setCell (p := ⟨bz, 6, none⟩) (Or.inr HZW.out) (.int .u32 (n.atime : Int))).setCell (p := ⟨bz, 7, none⟩) (Or.inr HZW.out) (.int .u32 (n.mtime : Int))).setCell (p := ⟨bz, 8, none⟩) (Or.inr HZW.out) (.int .u64 (n.length : Int))).setCell (p := ⟨bz, 9, none⟩) (Or.inr HZW.out) (.string n.name)).setCell (p := ⟨bz, 10, none⟩) (Or.inr HZW.out) (.string n.uid)).setCell (p := ⟨bz, 11, none⟩) (Or.inr HZW.out) (.string n.gid)).setCell (p := ⟨bz, 12, none⟩) (Or.inr HZW.out) (.string n.muid))⟩
end Go.Proofs.YtnpokdbpmnkbjaaGreatDoor
