/- The law's small entries; alike. -/
import Derived.Test.YtmcekhgmmocajaaGreatDoorDe
namespace Go.Proofs.YtmcekhgmmocajaaGreatDoor
open Go.RowKit Me

def smallL : List EntP := [⟨⟨#[46]⟩, 2147484141, 7, ⟨#[103]⟩, []⟩, ⟨⟨#[97]⟩, 420, 8, ⟨#[103]⟩, [120, 121]⟩]
theorem g103 : gidOk ⟨#[103]⟩ = true := by
  have : Tx.good [103] = true := by decide
  simp [gidOk, this, ByteArray.size]
theorem g97 : Tx.good [97] = true := by decide
theorem pc46 : pieces ⟨#[46]⟩ = [⟨#[46]⟩] := by rw [pieces_eq]; rfl
theorem pc97 : pieces ⟨#[97]⟩ = [⟨#[97]⟩] := by rw [pieces_eq]; rfl
theorem sk46 : skipP ⟨#[46]⟩ = true := by simp [skipP, Lib.toList_data]
theorem sk97 : skipP ⟨#[97]⟩ = false := by simp [skipP, Lib.toList_data]
theorem nm97 : nameOk ⟨#[97]⟩ = true := by simp [nameOk, Lib.toList_data, g97, ByteArray.size, Lib.indexByte]
theorem po46 : pathOk ⟨#[46]⟩ = true := by
  simp [pathOk, pc46, fit, sk46, cleanB, kept, reduce, joinP, rootedB, Lib.hasPrefix, List.isPrefixOf, Lib.toList_data]
theorem po97 : pathOk ⟨#[97]⟩ = true := by
  simp [pathOk, pc97, fit, sk97, fineP, nm97, cleanB, kept, reduce, redStep, up2, joinP, joinS, Lib.join, List.intercalate, rootedB, Lib.hasPrefix, List.isPrefixOf, Lib.toList_data, mkB]
theorem small_may : smallL.all mayE = true := by
  simp [smallL, mayE, po46, po97, g103, modeOk, bitsRest, sub1, isDirN, twoN, ByteArray.size]
theorem pp46 : partsP ⟨#[46]⟩ = [] := by simp [partsP, Lib.toList_data]
theorem pp97 : partsP ⟨#[97]⟩ = [⟨#[97]⟩] := by simp [partsP, Lib.toList_data, pc97]
theorem small_ord : ordE smallL = true := by
  simp [ordE, smallL, List.range_succ, ordAt, pp46, pp97, upB, dirsN, isDirN, cmpL]
theorem small_size : sizeL smallL = 38 := by
  simp [sizeL, smallL, EntP.size, ByteArray.size]
theorem small_enc : encP smallL = (fullD smallL, 0) := by
  unfold encP
  rw [if_neg (by rw [small_may]; simp [smallL]), if_neg (by rw [small_ord]; simp), if_neg (by rw [small_size]; omega)]
theorem small_small : ∀ e ∈ smallL, Small e := by
  intro e he
  simp only [smallL, List.mem_cons, List.not_mem_nil, or_false] at he
  rcases he with rfl | rfl
  · exact ⟨⟨by decide, by decide⟩, by simp [ByteArray.size], by simp [ByteArray.size], by simp⟩
  · exact ⟨⟨by decide, by decide⟩, by simp [ByteArray.size], by simp [ByteArray.size], by simp⟩
/-- What is written is read again. -/
theorem dec_enc {L : List EntP} {b : List UInt8} (h : encP L = (b, 0)) (hf : ∀ e ∈ L, Small e) (hl : L.length ≤ 100000000) : decP b = (L, 0) := by
  have h0 := h
  unfold encP at h
  split at h
  · simp at h
  · rename_i h1
    split at h
    · simp at h
    · split at h
      · simp at h
      · simp only [Prod.mk.injEq, and_true] at h
        simp only [not_or] at h1
        have hall : L.all mayE = true := by simpa using h1.2
        have hfine : ∀ e ∈ L, e.Fine := fun e he => may_fine (hf e he).toFits (List.all_eq_true.1 hall e he)
        have hr : readD b = some L := by
          rw [← h]
          exact readD_on L _ hfine (by omega)
        unfold decP
        rw [hr]
        simp only [h0, if_true]
theorem small_any (w : World) : Calls Tryz.prog 7 #[] w fun x w' => ∃ v, x = .returned v ∧ Ents w' v smallL ∧ Mods [] w w' := by
  have kc := fun (w : World) (C : Array Value) (n c : Nat) => Lib.run_convert_bytes_const (P := Tryz.prog) w 22 5 C n c Tryz.underlying22 Tryz.underlying5
  go_enter Tryz.func7, Tryz.ntmps7
  go_wp2_with fail
  go_ret
  have hc := heap_alloc_new (w.alloc (.cells #[.int .u8 120, .int .u8 121] 5 (2, 3))) (.cells #[.string ⟨#[46]⟩, .int .u32 2147484141, .int .u32 7, .string ⟨#[103]⟩, .slice none 0 0, .string ⟨#[97]⟩, .int .u32 420, .int .u32 8, .string ⟨#[103]⟩, .slice (some ⟨w.heap.size, 0, none⟩) 2 2] 47)
  rw [World.size_alloc] at hc
  have hd := Go.heap_alloc_old (w.alloc (.cells #[.int .u8 120, .int .u8 121] 5 (2, 3))) (.cells #[.string ⟨#[46]⟩, .int .u32 2147484141, .int .u32 7, .string ⟨#[103]⟩, .slice none 0 0, .string ⟨#[97]⟩, .int .u32 420, .int .u32 8, .string ⟨#[103]⟩, .slice (some ⟨w.heap.size, 0, none⟩) 2 2] 47) (r := w.heap.size) (by simp)
  rw [heap_alloc_new] at hd
  have hM := ((Mods.refl [] w).alloc (.cells #[.int .u8 120, .int .u8 121] 5 (2, 3))).alloc (.cells #[.string ⟨#[46]⟩, .int .u32 2147484141, .int .u32 7, .string ⟨#[103]⟩, .slice none 0 0, .string ⟨#[97]⟩, .int .u32 420, .int .u32 8, .string ⟨#[103]⟩, .slice (some ⟨w.heap.size, 0, none⟩) 2 2] 47)
  generalize (w.alloc (.cells #[.int .u8 120, .int .u8 121] 5 (2, 3))).alloc (.cells #[.string ⟨#[46]⟩, .int .u32 2147484141, .int .u32 7, .string ⟨#[103]⟩, .slice none 0 0, .string ⟨#[97]⟩, .int .u32 420, .int .u32 8, .string ⟨#[103]⟩, .slice (some ⟨w.heap.size, 0, none⟩) 2 2] 47) = w2 at *
  refine ⟨_, rfl, ⟨_, 2, rfl, Nat.le_refl _, by unfold maxLen; omega, fun i e he => ?_⟩, hM⟩
  have hcell : ∀ j, w2.cell? ⟨w.heap.size + 1, j, none⟩ = _ := fun j => cell_of_row _ _ j _ _ _ hc
  have hdcell : ∀ j, w2.cell? ⟨w.heap.size, j, none⟩ = _ := fun j => cell_of_row _ _ j _ _ _ hd
  rcases i with _ | _ | i
  · simp [smallL] at he
    subst he
    refine ⟨w.heap.size + 1, 0, .slice none 0 0, rfl, fun j u hu => ?_, ⟨none, 0, rfl, Nat.le_refl _, by unfold maxLen; omega, by simp⟩⟩
    rw [hcell]
    rcases j with _ | _ | _ | _ | _ | j <;> simp [entC] at hu ⊢
    all_goals exact hu
  · simp [smallL] at he
    subst he
    refine ⟨w.heap.size + 1, 0, .slice (some ⟨w.heap.size, 0, none⟩) 2 2, rfl, fun j u hu => ?_, ⟨_, 2, rfl, Nat.le_refl _, by unfold maxLen; omega, fun j u hu => ⟨w.heap.size, 0, rfl, ?_⟩⟩⟩
    · rw [hcell]
      rcases j with _ | _ | _ | _ | _ | j <;> simp [entC] at hu ⊢
      all_goals exact hu
    · rw [hdcell]
      rcases j with _ | _ | j <;> simp [byteV] at hu ⊢
      all_goals exact hu
  · simp [smallL] at he
set_option maxRecDepth 100000 in
theorem alike_any (e : EntP) (va vb : Value) (w : World) (ha : Rd w va (e.data.map byteV)) (hb : Rd w vb (e.data.map byteV)) :
    Calls Tryz.prog 19 #[entV e va, entV e vb] w fun x w' => x = .returned (.bool true) ∧ Mods [] w w' := by
  have HA := Lib.hid (fun w' (hw : Mods [] w w') => conv_rd (ha.mods hw (by simp)))
  have HB := Lib.hid (fun w' (hw : Mods [] w w') => conv_rd (hb.mods hw (by simp)))
  obtain ⟨A, c, rfl, -⟩ := ha
  obtain ⟨B, d, rfl, -⟩ := hb
  simp only [List.length_map] at *
  unfold entV
  have hm := ((Mods.refl [] w).alloc (.cells #[.string e.path, .int .u32 (e.mode : Int), .int .u32 (e.mtime : Int), .string e.gid, .slice A e.data.length c] 47)).alloc (.cells #[.string e.path, .int .u32 (e.mode : Int), .int .u32 (e.mtime : Int), .string e.gid, .slice B e.data.length d] 47)
  have k1 := HA.out _ hm
  have k2 := HB.out _ hm
  have HM := Lib.hid hm
  clear hm HA HB
  go_enter Tryz.func19, Tryz.ntmps19
  go_wp2_with fail
  go_ret
  exact ⟨rfl, HM.out⟩
end Go.Proofs.YtmcekhgmmocajaaGreatDoor
