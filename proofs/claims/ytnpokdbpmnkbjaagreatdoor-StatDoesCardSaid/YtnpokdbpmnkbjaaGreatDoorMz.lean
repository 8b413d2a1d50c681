/- The document's ParseMode. -/
import Derived.Test.YtnpokdbpmnkbjaaGreatDoorMy
import Derived.Test.YtnpokdbpmnkbjaaGreatDoorMx
namespace Go.Proofs.YtnpokdbpmnkbjaaGreatDoor
open Go.RowKit Me

def RelX1 (t : List UInt8) (w1 : World) (n i : Value) (wr : World) : Prop := ∃ k : Nat, k ≤ 13 ∧ i = .int .i64 (k : Int) ∧ n = .int .u32 (Mo.Pl.sumX t k : Int) ∧ Mods [] w1 wr
def RelX2 (t : List UInt8) (w1 : World) (r i : Value) (wr : World) : Prop := ∃ j : Nat, j ≤ t.length - 14 ∧ i = .int .i64 (14 + (j : Int)) ∧ r = .int .u32 (Mo.Pl.foldX ((t.drop 14).take j) : Int) ∧ Mods [] w1 wr
set_option maxRecDepth 100000 in
set_option maxHeartbeats 1000000 in
theorem rparse_any (s : ByteArray) (w : World) (hs : s.size ≤ maxLen) :
    Calls Tryz.prog 47 #[.string s] w fun e w' => e = .returned (.tuple #[.int .u32 ((Mo.Pl.parse s.data.toList).1 : Int), .int .i64 ((Mo.Pl.parse s.data.toList).2 : Int)]) ∧ Mods [] w w' := by
  have hls : s.data.toList.length = s.size := by simp
  have HP := Lib.hid (Mo.Pl.parse_X s.data.toList)
  have HLS := Lib.hid hls
  unfold maxLen at hs
  by_cases h1 : s.size < 13
  · have hb : decide ((s.size : Int) < 13) = true := by simp; omega
    clear hls
    go_enter Tryz.func47, Tryz.ntmps47
    go_wp2_with fail
    go_ret2
    exact ⟨by rw [HP.out, if_pos (by rw [HLS.out]; omega)]; rfl, Mods.refl _ _⟩
  by_cases h2 : 22 < s.size
  · have hb : decide ((s.size : Int) < 13) = false := by simp; omega
    have hb : decide (22 < (s.size : Int)) = true := by simp; omega
    clear hls
    go_enter Tryz.func47, Tryz.ntmps47
    go_wp2_with fail
    go_ret2
    exact ⟨by rw [HP.out, if_pos (by rw [HLS.out]; omega)]; rfl, Mods.refl _ _⟩
  have hb : decide ((s.size : Int) < 13) = false := by simp; omega
  have hb : decide (22 < (s.size : Int)) = false := by simp; omega
  have hpx : Mo.Pl.parse s.data.toList = if Mo.Pl.modeL (Mo.Pl.numX s.data.toList) = s.data.toList then (Mo.Pl.numX s.data.toList, 0) else (0, 21) := by rw [HP.out, if_neg (by omega)]
  have HPX := Lib.hid hpx
  clear hpx HP hls
  go_enter Tryz.func47, Tryz.ntmps47
  go_wp2_with fail
  refine (letters_any w).mono ?_; rintro e w1 ⟨rfl, hw1⟩
  have HM0 : Hid (Mods [] w w1) := Lib.hid (by rw [← hw1]; exact (Mods.refl _ _).alloc _)
  have HB0 : Hid (w1.heap[w.heap.size]? = some (.cells bitsX 29 (0, 0))) := Lib.hid (by rw [← hw1]; exact heap_alloc_new w _)
  clear hw1
  generalize w.heap.size = b at *
  go_wp2_with fail
  go_loopw [6, 7] (fun n i wr => RelX1 s.data.toList w1 n i wr) (fun _ i _ => 13 - (intOf i).toNat)
  case atStart => exact ⟨0, by omega, rfl, rfl, Mods.refl _ _⟩
  case round =>
    obtain ⟨k, hk, rfl, rfl, hm⟩ := hrel
    have HM := Lib.hid hm
    rcases Nat.lt_or_ge k 13 with hlt | hge
    · have HC0 : Hid (∀ m, wr.cell? ⟨b, k, none⟩ = some (.int .u32 ((2 ^ Mo.Pl.posL.getD k 0 : Nat) : Int)) ∧ (wr.drewN m).cell? ⟨b, k, none⟩ = some (.int .u32 ((2 ^ Mo.Pl.posL.getD k 0 : Nat) : Int))) := Lib.hid (fun m => ⟨by rw [cell_of_row _ _ _ _ _ _ (hm.heap HB0.out (by simp))]; exact bitsX_at k hlt, by rw [cell_of_row _ _ _ _ _ _ ((hm.drewN m).heap HB0.out (by simp))]; exact bitsX_at k hlt⟩)
      have hsz : k < s.size := by omega
      have hwz : k < wordS.size := hlt
      have hws : wordS[k]'hwz = Mo.Pl.wordL.getD k 0 := wordS_at k hlt
      clear hm
      have hword : s.data.toList.getD k 45 = s[k] := Mo.sget s k hsz
      have hsum : Mo.Pl.sumX s.data.toList (k + 1) = Mo.Pl.sumX s.data.toList k + (if s[k] = Mo.Pl.wordL.getD k 0 then 2 ^ Mo.Pl.posL.getD k 0 else 0) := by
        rw [← hword]
        rfl
      have hle := Mo.Pl.sumX_le s.data.toList k hk
      have hsm := (Mo.Pl.stepL 0 k hlt).small
      generalize hq : 2 ^ Mo.Pl.posL.getD k 0 = q at *
      generalize hc : Mo.Pl.wordL.getD k 0 = c at *
      generalize Mo.Pl.sawL.getD k 0 = y at *
      clear hq hc hword
      have HS := Lib.hid hsum
      generalize Mo.Pl.sumX s.data.toList k = x at *
      clear hsum
      have HN : Hid (∀ z q2, z = Mo.Pl.sumX s.data.toList (k + 1) → RelX1 s.data.toList w1 (.int .u32 (z : Int)) (.int .i64 ((k : Int) + 1)) (wr.drewN q2)) := Lib.hid (fun z q2 hz => ⟨k + 1, by omega, rfl, by rw [hz], HM.out.drewN q2⟩)
      generalize hz : s[k] = z at *
      by_cases he : z = c
      · have hb3 : ((z.toNat : Int) == (c.toNat : Int)) = true := by rw [he]; simp
        rw [if_pos he] at HS
        have s1 : IntKind.u32.wrap ((x : Int) + (q : Int)) = ((x + q : Nat) : Int) := by rw [IntKind.wrap_u32]; omega
        go_wp2_with fail
        go_quiet (fail)
        have c1 := (HC0.out nq).2
        have HR := Lib.hid (HN.out (x + q) nq HS.out.symm)
        go_wp2_with fail
        exact ⟨HR.out, by simp only [intOf]; omega⟩
      · have hb3 : ((z.toNat : Int) == (c.toNat : Int)) = false := by
          rw [beq_eq_false_iff_ne]
          exact fun e => he (UInt8.toNat_inj.1 (by omega))
        rw [if_neg he] at HS
        go_wp2_with fail
        go_quiet (fail)
        have HR := Lib.hid (HN.out x nq HS.out.symm)
        go_wp2_with fail
        exact ⟨HR.out, by simp only [intOf]; omega⟩
    · obtain rfl : k = 13 := by omega
      have hxl := Mo.Pl.sumX_le s.data.toList 13 (by omega)
      rw [show Mo.Pl.sawL.getD 13 0 = 3825205759 from rfl] at hxl
      have hnum : Mo.Pl.numX s.data.toList = Mo.Pl.sumX s.data.toList 13 ||| Mo.Pl.foldX (s.data.toList.drop 14) := rfl
      have HNUM := Lib.hid hnum
      generalize Mo.Pl.sumX s.data.toList 13 = x at *
      have HMW : Hid (Mods [] w wr) := Lib.hid (HM0.out.trans hm (by simp))
      clear hm hnum HM HB0
      generalize wr = w0 at *
      go_wp2_with fail
      go_loopw [8, 9] (fun r i wx => RelX2 s.data.toList w0 r i wx) (fun _ i _ => s.size - (intOf i).toNat)
      case atStart => exact ⟨0, by omega, rfl, rfl, Mods.refl _ _⟩
      case round =>
        obtain ⟨j, hj, rfl, rfl, hm⟩ := hrel
        rw [HLS.out] at hj
        have HM2 := Lib.hid hm
        have hfl := Mo.Pl.foldX_lt ((s.data.toList.drop 14).take j)
        rcases Nat.lt_or_ge (14 + j) s.size with hlt | hge
        · have hsn : (s.data.toList.drop 14).take (j + 1) = (s.data.toList.drop 14).take j ++ [s[14 + j]] := by
            rw [List.take_add_one]
            congr 1
            rw [List.getElem?_drop, List.getElem?_eq_getElem (by rw [HLS.out]; exact hlt)]
            rfl
          have hfs : Mo.Pl.foldX ((s.data.toList.drop 14).take (j + 1)) = (Mo.Pl.foldX ((s.data.toList.drop 14).take j) * 16 + Mo.Pl.hexw s[14 + j]) % 4294967296 := by rw [hsn, Mo.Pl.foldX_snoc]
          have HFS := Lib.hid hfs
          have HNX : Hid (∀ z i : Int, z = (Mo.Pl.foldX ((s.data.toList.drop 14).take (j + 1)) : Int) → i = 14 + (j : Int) + 1 → RelX2 s.data.toList w0 (.int .u32 z) (.int .i64 i) wr) := Lib.hid (fun z i hz hi => ⟨j + 1, by rw [HLS.out]; omega, by rw [hi]; congr 1, by rw [hz], HM2.out⟩)
          rw [HFS.out] at HNX
          generalize Mo.Pl.foldX ((s.data.toList.drop 14).take j) = f at *
          have hz0 := s[14 + j].toNat_lt
          have hxw : Mo.Pl.hexw s[14 + j] = if 97 ≤ s[14 + j].toNat ∧ s[14 + j].toNat ≤ 102 then s[14 + j].toNat - 97 + 10 else if 48 ≤ s[14 + j].toNat ∧ s[14 + j].toNat ≤ 57 then s[14 + j].toNat - 48 else 0 := rfl
          have hp : (14 : Int) + (j : Int) = ((14 + j : Nat) : Int) := by omega
          have hjn : 14 + j < s.size := hlt
          rw [hp] at *
          generalize h14 : 14 + j = m at *
          clear hm hfs hsn
          generalize hzz : s[m] = z at *
          have s1 : IntKind.u32.wrap ((f : Int) * 16) = ((f * 16 % 4294967296 : Nat) : Int) := by rw [IntKind.wrap_u32]; omega
          have hfe : ∀ d : Nat, (f * 16 + d) % 4294967296 = (f * 16 % 4294967296 + d) % 4294967296 := fun d => by omega
          rw [hfe] at HNX
          have hgl : f * 16 % 4294967296 < 4294967296 := by omega
          generalize f * 16 % 4294967296 = g at *
          have s2 : IntKind.u32.wrap (g : Int) = (g : Int) := by rw [IntKind.wrap_u32]; omega
          rcases (show z.toNat < 48 ∨ (48 ≤ z.toNat ∧ z.toNat ≤ 57) ∨ (57 < z.toNat ∧ z.toNat < 97) ∨ (97 ≤ z.toNat ∧ z.toNat ≤ 102) ∨ 102 < z.toNat by omega) with h | ⟨h, h'⟩ | ⟨h, h'⟩ | ⟨h, h'⟩ | h
          · rw [if_neg (by omega), if_neg (by omega)] at hxw
            rw [hxw] at HNX
            go_wp2_with fail
            exact ⟨HNX.out _ _ (by omega) (by omega), by simp only [intOf]; omega⟩
          · rw [if_neg (by omega), if_pos ⟨h, h'⟩] at hxw
            obtain ⟨d, hd⟩ : ∃ d, d = z.toNat - 48 := ⟨_, rfl⟩
            rw [hxw, ← hd] at HNX
            have s3 : (z.toNat : Int) - 48 = ((d : Nat) : Int) := by omega
            have s4 : IntKind.u32.wrap ((g : Int) + (d : Int)) = (((g + d) % 4294967296 : Nat) : Int) := by rw [IntKind.wrap_u32]; omega
            go_wp2_with fail
            exact ⟨HNX.out _ _ (by omega) (by omega), by simp only [intOf]; omega⟩
          · rw [if_neg (by omega), if_neg (by omega)] at hxw
            rw [hxw] at HNX
            go_wp2_with fail
            exact ⟨HNX.out _ _ (by omega) (by omega), by simp only [intOf]; omega⟩
          · rw [if_pos ⟨h, h'⟩] at hxw
            obtain ⟨d, hd⟩ : ∃ d, d = z.toNat - 97 + 10 := ⟨_, rfl⟩
            rw [hxw, ← hd] at HNX
            have s3 : (z.toNat : Int) - 97 = ((d - 10 : Nat) : Int) := by omega
            have s4 : IntKind.u32.wrap ((g : Int) + (d : Int)) = (((g + d) % 4294967296 : Nat) : Int) := by rw [IntKind.wrap_u32]; omega
            go_wp2_with fail
            exact ⟨HNX.out _ _ (by omega) (by omega), by simp only [intOf]; omega⟩
          · rw [if_neg (by omega), if_neg (by omega)] at hxw
            rw [hxw] at HNX
            go_wp2_with fail
            exact ⟨HNX.out _ _ (by omega) (by omega), by simp only [intOf]; omega⟩
        · have hall : (s.data.toList.drop 14).take j = s.data.toList.drop 14 := List.take_of_length_le (by rw [List.length_drop, HLS.out]; omega)
          rw [hall] at hfl ⊢
          have s1 : bits .or .u32 (x : Int) (Mo.Pl.foldX (s.data.toList.drop 14) : Int) = (Mo.Pl.numX s.data.toList : Int) := by rw [HNUM.out]; exact u32_or_nat x _ (by omega) hfl
          have hnl := Mo.Pl.numX_lt s.data.toList
          have HMO := Lib.hid (rmode_any (Mo.Pl.numX s.data.toList) hnl)
          have HMM := Lib.hid (HMW.out.trans hm (by simp))
          have hsl : s.toList = s.data.toList := Mo.toList_data s
          generalize Mo.Pl.foldX (s.data.toList.drop 14) = f at *
          generalize Mo.Pl.numX s.data.toList = z at *
          clear hm HM2 HNUM
          go_wp2_with fail
          refine (HMO.out _).mono ?_; rintro e w2 ⟨rfl, hm2⟩
          have HM3 := Lib.hid (HMM.out.trans hm2 (by simp))
          clear hm2
          by_cases heq : Mo.Pl.modeL z = s.data.toList
          · have hbb : (!Mo.Pl.modeL z == s.data.toList) = false := by rw [heq]; simp
            go_wp2_with fail
            go_ret2
            exact ⟨by rw [HPX.out, if_pos heq]; rfl, HM3.out⟩
          · have hbb : (!Mo.Pl.modeL z == s.data.toList) = true := by simp [heq]
            go_wp2_with fail
            go_ret2
            exact ⟨by rw [HPX.out, if_neg heq]; rfl, HM3.out⟩
end Go.Proofs.YtnpokdbpmnkbjaaGreatDoor
