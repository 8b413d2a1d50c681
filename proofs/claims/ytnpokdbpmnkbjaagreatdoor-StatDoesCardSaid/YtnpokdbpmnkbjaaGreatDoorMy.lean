/- The document's letters, Mode. -/
import Derived.Test.YtnpokdbpmnkbjaaGreatDoorMq
import Derived.Test.YtnpokdbpmnkbjaaGreatDoorMx
import Derived.Test.YtnpokdbpmnkbjaaGreatDoorRk
import Derived.Test.YtnpokdbpmnkbjaaGreatDoorZe
import Derived.Deep.CutBlock
import Derived.Deep.CutRange
namespace Go.Proofs.YtnpokdbpmnkbjaaGreatDoor
open Go.RowKit Me

def bitsX : Array Value := #[.int .u32 2147483648, .int .u32 1073741824, .int .u32 536870912, .int .u32 67108864, .int .u32 256, .int .u32 128, .int .u32 64, .int .u32 32, .int .u32 16, .int .u32 8, .int .u32 4, .int .u32 2, .int .u32 1]
def wordS : ByteArray := ⟨#[100, 97, 108, 116, 114, 119, 120, 114, 119, 120, 114, 119, 120]⟩
theorem letters_any (w : World) : Calls Tryz.prog 92 #[] w fun e w' => e = .returned (.tuple #[.string wordS, .slice (some ⟨w.heap.size, 0, none⟩) 13 13]) ∧ w.alloc (.cells bitsX 29) = w' := by
  go_enter Tryz.func92, Tryz.ntmps92
  go_wp2_with fail
  go_ret2
  exact ⟨rfl, rfl⟩
theorem bitsX_at (k : Nat) (hk : k < 13) : bitsX[k]? = some (.int .u32 ((2 ^ Mo.Pl.posL.getD k 0 : Nat) : Int)) := by
  rcases (show k = 0 ∨ k = 1 ∨ k = 2 ∨ k = 3 ∨ k = 4 ∨ k = 5 ∨ k = 6 ∨ k = 7 ∨ k = 8 ∨ k = 9 ∨ k = 10 ∨ k = 11 ∨ k = 12 by omega) with rfl | rfl | rfl | rfl | rfl | rfl | rfl | rfl | rfl | rfl | rfl | rfl | rfl <;> rfl
theorem wordS_at (k : Nat) (hk : k < 13) : wordS[k]'hk = Mo.Pl.wordL.getD k 0 := by
  rcases (show k = 0 ∨ k = 1 ∨ k = 2 ∨ k = 3 ∨ k = 4 ∨ k = 5 ∨ k = 6 ∨ k = 7 ∨ k = 8 ∨ k = 9 ∨ k = 10 ∨ k = 11 ∨ k = 12 by omega) with rfl | rfl | rfl | rfl | rfl | rfl | rfl | rfl | rfl | rfl | rfl | rfl | rfl <;> rfl
def RelM1 (n : Nat) (w1 : World) (v r i : Value) (wr : World) : Prop :=
  ∃ k : Nat, k ≤ 13 ∧ i = .int .i64 (k : Int) ∧ r = .int .u32 ((n &&& Mo.Pl.maskL.getD k 0 : Nat) : Int) ∧ wr.ownsRow w1.heap.size 5 1 v k (((Mo.Pl.baseL n).take k).map byteV) ∧ Mods [] w1 wr
def RelM2 (n r : Nat) (w w1 : World) (v g i : Value) (wr : World) : Prop :=
  ∃ t : Nat, t ≤ 8 ∧ i = .int .i64 (7 - (t : Int)) ∧ g = .bool (decide (r / 2 ^ (32 - 4 * t) ≠ 0)) ∧ wr.ownsRow w1.heap.size 5 1 v (14 + (Mo.Pl.hexD r t).length) ((Mo.Pl.baseL n ++ [43] ++ Mo.Pl.hexD r t).map byteV) ∧ Mods [] w wr ∧ w1.heap.size ≤ wr.heap.size
set_option maxRecDepth 100000 in
set_option maxHeartbeats 1000000 in
theorem rmode_any (n : Nat) (hn : n < 4294967296) (w : World) :
    Calls Tryz.prog 45 #[.int .u32 (n : Int)] w fun e w' => e = .returned (.string ⟨(Mo.Pl.modeL n).toArray⟩) ∧ Mods [] w w' := by
  have HRA := Lib.hid (Mo.Pl.rest_all n hn)
  obtain ⟨i0, hi, hz0, hz1, hz2⟩ := info_parts info5
  go_enter Tryz.func45, Tryz.ntmps45
  go_wp2_with fail
  refine (letters_any w).mono ?_; rintro e w1 ⟨rfl, hw1⟩
  have HM0 : Hid (Mods [] w w1) := Lib.hid (by rw [← hw1]; exact (Mods.refl _ _).alloc _)
  have HB0 : Hid (w1.heap[w.heap.size]? = some (.cells bitsX 29 (0, 0))) := Lib.hid (by rw [← hw1]; exact heap_alloc_new w _)
  clear hw1
  generalize w.heap.size = b at *
  go_wp2_with fail
  go_loopw [5, 6, 7] (fun v r i wr => RelM1 n w1 v r i wr) (fun _ _ i _ => 13 - (intOf i).toNat)
  case atStart => exact ⟨0, by omega, rfl, by rw [HRA.out], World.ownsRow_nil _ _ _ _, Mods.refl _ _⟩
  case round =>
    obtain ⟨k, hk, rfl, rfl, ho, hm⟩ := hrel
    obtain ⟨Ao, co, rfl⟩ := own_ctor ho
    have HO := Lib.hid ho
    have HM := Lib.hid hm
    rcases Nat.lt_or_ge k 13 with hlt | hge
    · have c0 : wr.cell? ⟨b, k, none⟩ = some (.int .u32 ((2 ^ Mo.Pl.posL.getD k 0 : Nat) : Int)) := by rw [cell_of_row _ _ _ _ _ _ (hm.heap HB0.out (by simp))]; exact bitsX_at k hlt
      have HC0 : Hid (∀ W, Mods [] w1 W → W.cell? ⟨b, k, none⟩ = some (.int .u32 ((2 ^ Mo.Pl.posL.getD k 0 : Nat) : Int))) := Lib.hid (fun W hmw => by rw [cell_of_row _ _ _ _ _ _ (hmw.heap HB0.out (by simp))]; exact bitsX_at k hlt)
      have hst := Mo.Pl.stepL n k hlt
      have hws := wordS_at k hlt
      obtain ⟨hpl, -, -, hbase, hrest, -, -, -, -⟩ := hst
      generalize hp : Mo.Pl.posL.getD k 0 = p at *
      have hq0 : 0 < 2 ^ p := Nat.two_pow_pos p
      have hdv : ((n / 2 ^ p : Nat) % 2 == 1) = n.testBit p := by rw [Nat.testBit_eq_decide_div_mod_eq]; rfl
      generalize hq : 2 ^ p = q at *
      generalize hc : Mo.Pl.wordL.getD k 0 = c at *
      generalize hA : n &&& Mo.Pl.maskL.getD k 0 = A at *
      have hAl : A ≤ n := by rw [← hA]; exact Nat.and_le_left
      generalize hB : n &&& Mo.Pl.maskL.getD (k + 1) 0 = B at *
      have HBB := Lib.hid hB
      have hnq : n / q ≤ n := Nat.div_le_self _ _
      have s0 : ¬ ((q : Int) = 0) := by omega
      have s1 : ∀ y, y = n / q → IntKind.u32.wrap ((n : Int) / (q : Int)) = (y : Int) := fun y hy => by
        rw [show (n : Int) / (q : Int) = (y : Int) by rw [hy]; simp, IntKind.wrap_u32]
        omega
      have s1 := s1 _ rfl
      have s2 : (((n / q : Nat) : Int) % 2 == 1) = n.testBit p := by rw [← hdv]; rcases (show n / q % 2 = 0 ∨ n / q % 2 = 1 by omega) with h | h <;> (rw [h, show ((n / q : Nat) : Int) % 2 = ((n / q % 2 : Nat) : Int) by simp, h]; rfl)
      generalize n / q = y at *
      have hwz : k < wordS.size := hlt
      have hws2 : wordS[k]'hwz = c := hws
      clear ho hm hdv hp hq hA hB hc
      have HBS := Lib.hid hbase
      clear hbase
      cases htb : n.testBit p
      all_goals rw [htb] at s2 HBS hrest
      · simp only [Bool.false_eq_true, if_false, Nat.add_zero] at hrest
        subst hrest
        go_wp2_with (at_builtin; go_must (refine wpList_app _ rfl _ _ 37 37 rfl w1.heap.size 5 i0 (.int .u8 0) 1 1 Tryz.underlying37 hi hz0 hz1 hz2 rfl _ _ _ rfl (HO.out.alloc _) _ 1 [.int .u8 45] rfl ?c1 ?c2 ?c3 ?c4 ?_))
        case c1 => exact src_one Tryz.underlying37 _ _ _ rfl
        case c2 => unfold maxLen; omega
        case c3 => omega
        case c4 => have := HM.out.size; simp; omega
        intro v2 w2 hown hgrow hat
        have hm2 : Mods [] w1 w2 := (HM.out.alloc _).grown hgrow (fun b hb => Or.inr (HO.out.lt b hb).1)
        have HR : Hid (RelM1 n w1 v2 (.int .u32 (A : Int)) (.int .i64 ((k : Int) + 1)) w2) := Lib.hid ⟨k + 1, by omega, rfl, by rw [HBB.out], by rw [HBS.out]; simpa [byteV, Mo.Pl.lt] using hown, hm2⟩
        obtain ⟨A2, c2, rfl⟩ := own_ctor hown
        clear hown hgrow hat hm2
        go_wp2_with fail
        exact ⟨HR.out, by simp only [intOf]; omega⟩
      · simp only [if_true] at hrest
        have s3 : IntKind.u32.wrap ((A : Int) - (q : Int)) = (B : Int) := by rw [IntKind.wrap_u32]; omega
        go_wp2_with (at_builtin; go_must (refine wpList_app _ rfl _ _ 37 37 rfl w1.heap.size 5 i0 (.int .u8 0) 1 1 Tryz.underlying37 hi hz0 hz1 hz2 rfl _ _ _ rfl (HO.out.alloc _) _ 1 [.int .u8 (c.toNat : Int)] rfl ?c1 ?c2 ?c3 ?c4 ?_))
        case c1 => exact src_one Tryz.underlying37 _ _ _ rfl
        case c2 => unfold maxLen; omega
        case c3 => omega
        case c4 => have := HM.out.size; simp; omega
        intro v2 w2 hown hgrow hat
        have hm2 : Mods [] w1 w2 := (HM.out.alloc _).grown hgrow (fun b hb => Or.inr (HO.out.lt b hb).1)
        have HR : Hid (RelM1 n w1 v2 (.int .u32 (B : Int)) (.int .i64 ((k : Int) + 1)) w2) := Lib.hid ⟨k + 1, by omega, rfl, by rw [HBB.out], by rw [HBS.out]; simpa [byteV, Mo.Pl.lt] using hown, hm2⟩
        obtain ⟨A2, c2, rfl⟩ := own_ctor hown
        have c9 := HC0.out w2 hm2
        clear hown hgrow hat hm2
        go_wp2_with fail
        exact ⟨HR.out, by simp only [intOf]; omega⟩
    · obtain rfl : k = 13 := by omega
      have hbt : (Mo.Pl.baseL n).take 13 = Mo.Pl.baseL n := List.take_of_length_le (by rw [Mo.Pl.baseL_length]; omega)
      have HO13 : Hid (wr.ownsRow w1.heap.size 5 1 (.slice Ao 13 co) 13 ((Mo.Pl.baseL n).map byteV)) := Lib.hid (by rw [← hbt]; exact ho)
      have HMM : Hid (Mods [] w wr) := Lib.hid (HM0.out.trans hm (by simp))
      have HW1 : Hid (w1.heap.size ≤ wr.heap.size) := Lib.hid hm.size
      have hrl := Mo.Pl.restOf_lt n
      have hml : Mo.Pl.modeL n = if Mo.Pl.restOf n = 0 then Mo.Pl.baseL n else Mo.Pl.baseL n ++ [43] ++ Mo.Pl.hexD (Mo.Pl.restOf n) 8 := rfl
      have HML := Lib.hid hml
      rw [show n &&& Mo.Pl.maskL.getD 13 0 = Mo.Pl.restOf n from rfl]
      generalize Mo.Pl.restOf n = r at *
      clear ho hm HO hml hbt HRA hn
      by_cases hr0 : r = 0
      · have hb : ((r : Int) == 0) = true := by rw [hr0]; rfl
        obtain ⟨g, cap, e, hcell⟩ := own_form1 HO13.out (by omega)
        cases e
        have hcv := conv_bytes (w := wr) (g := g) (off := 0) co (Mo.Pl.baseL n) (fun j x hx => by
          have := hcell j (byteV x) (by rw [List.getElem?_map, hx]; rfl)
          simpa using this)
        rw [Mo.Pl.baseL_length] at hcv
        go_wp2_with fail
        go_ret
        exact ⟨by rw [HML.out, if_pos hr0]; rfl, HMM.out⟩
      · have hb : ((r : Int) == 0) = false := by simp [hr0]
        go_wp2_with (at_builtin; go_must (refine wpList_app _ rfl _ _ 37 37 rfl w1.heap.size 5 i0 (.int .u8 0) 1 1 Tryz.underlying37 hi hz0 hz1 hz2 rfl _ _ _ rfl (HO13.out.alloc _) _ 1 [.int .u8 43] rfl ?c1 ?c2 ?c3 ?c4 ?_))
        case c1 => exact src_one Tryz.underlying37 _ _ _ rfl
        case c2 => unfold maxLen; omega
        case c3 => omega
        case c4 => have := HW1.out; simp; omega
        intro v2 w2 hown hgrow hat
        have HM2 : Hid (Mods [] w w2) := Lib.hid ((HMM.out.alloc _).grown hgrow (fun b hb => Or.inr (by have := (HO13.out.lt b hb).1; have := HM0.out.size; omega)))
        have HO2 : Hid (w2.ownsRow w1.heap.size 5 1 v2 14 ((Mo.Pl.baseL n ++ [43] ++ Mo.Pl.hexD r 0).map byteV)) := Lib.hid (by simpa [byteV, Mo.Pl.hexD] using hown)
        have HW2 : Hid (w1.heap.size ≤ w2.heap.size) := Lib.hid (by have := hgrow.size; have := HW1.out; simp at *; omega)
        obtain ⟨A2, c2, rfl⟩ := own_ctor hown
        clear hown hgrow hat
        go_wp2_with fail
        go_loopw [5, 8, 9] (fun v g i wx => RelM2 n r w w1 v g i wx) (fun _ _ i _ => (intOf i + 1).toNat)
        case atStart => exact ⟨0, by omega, rfl, by rw [Nat.div_eq_of_lt (by simpa using hrl)]; rfl, by simpa [Mo.Pl.hexD] using HO2.out, HM2.out, HW2.out⟩
        case round =>
          obtain ⟨t, ht, rfl, rfl, ho, hm, hw⟩ := hrel
          obtain ⟨Ao, co, rfl⟩ := own_ctor ho
          have HO := Lib.hid ho
          have HM := Lib.hid hm
          rcases Nat.lt_or_ge t 8 with hlt | hge
          · have hnext : Mo.Pl.hexD r (t + 1) = Mo.Pl.hexD r t ++ (if r / 2 ^ (28 - 4 * t) = 0 then [] else [Mo.Pl.hexc (r / 2 ^ (28 - 4 * t) % 16)]) := rfl
            have hprev : r / 2 ^ (32 - 4 * t) = r / 2 ^ (28 - 4 * t) / 16 := by
              rw [show 32 - 4 * t = (28 - 4 * t) + 4 by omega, Nat.pow_add, ← Nat.div_div_eq_div_mul]
            have hql : r / 2 ^ (28 - 4 * t) ≤ r := Nat.div_le_self _ _
            have s4 : (r : Int) / 2 ^ (4 * (7 - t)) = ((r / 2 ^ (28 - 4 * t) : Nat) : Int) := by rw [show 28 - 4 * t = 4 * (7 - t) by omega]; simp
            have HRL : Hid (∀ (v : Value) (g : Bool) (i : Int) (wx : World), g = decide (r / 2 ^ (28 - 4 * t) ≠ 0) → i = 6 - (t : Int) → wx.ownsRow w1.heap.size 5 1 v (14 + (Mo.Pl.hexD r (t + 1)).length) ((Mo.Pl.baseL n ++ [43] ++ Mo.Pl.hexD r (t + 1)).map byteV) → Mods [] w wx → w1.heap.size ≤ wx.heap.size → RelM2 n r w w1 v (.bool g) (.int .i64 i) wx) :=
              Lib.hid (fun v g i wx hg hi h1 h2 h3 => ⟨t + 1, by omega, by rw [hi]; congr 1; omega, by rw [hg, show 32 - 4 * (t + 1) = 28 - 4 * t by omega], h1, h2, h3⟩)
            rw [hprev]
            generalize hqq : r / 2 ^ (28 - 4 * t) = q at *
            have HNX := Lib.hid hnext
            have hd16 : q % 16 < 16 := by omega
            have s6 : IntKind.i64.wrap (4 * (7 - (t : Int))) = 4 * (7 - (t : Int)) := IntWalk.i64_in _ (by omega)
            have HWS := Lib.hid hw
            have hhl : (Mo.Pl.hexD r t).length ≤ 8 := Nat.le_trans (Mo.Pl.hexD_len r t) ht
            clear ho hm hnext hprev hqq hw
            by_cases hq0 : q = 0
            · subst hq0
              have HR := Lib.hid (HRL.out _ false (7 - (t : Int) - 1) wr rfl (by omega) (by rw [HNX.out, if_pos rfl, List.append_nil]; exact HO.out) HM.out HWS.out)
              go_wp2_with fail
              exact ⟨HR.out, by simp only [intOf]; omega⟩
            · by_cases hd0 : q % 16 = 0
              · have hge16 : 16 ≤ q := by omega
                go_wp2_with (at_builtin; go_must (refine wpList_app _ rfl _ _ 37 37 rfl w1.heap.size 5 i0 (.int .u8 0) 1 1 Tryz.underlying37 hi hz0 hz1 hz2 rfl _ _ _ rfl (HO.out.alloc _) _ 1 [.int .u8 48] rfl ?c1 ?c2 ?c3 ?c4 ?_))
                case c1 => exact src_one Tryz.underlying37 _ _ _ rfl
                case c2 => unfold maxLen; omega
                case c3 => omega
                case c4 => have := HWS.out; simp; omega
                intro v2 w3 hown hgrow hat
                have hm3 : Mods [] w w3 := (HM.out.alloc _).grown hgrow (fun b hb => Or.inr (by have := (HO.out.lt b hb).1; have := HM0.out.size; omega))
                have hw3 : w1.heap.size ≤ w3.heap.size := by have := hgrow.size; have := HWS.out; simp at *; omega
                have HR := Lib.hid (HRL.out v2 true (7 - (t : Int) - 1) w3 (by simp [hq0]) (by omega) (by rw [HNX.out, if_neg hq0, hd0]; simpa [byteV, Nat.add_assoc, Mo.Pl.hexc] using hown) hm3 hw3)
                obtain ⟨A3, c3, rfl⟩ := own_ctor hown
                clear hown hgrow hat hm3 hw3
                go_wp2_with fail
                exact ⟨HR.out, by simp only [intOf]; omega⟩

              · go_wp2_with (at_builtin; go_must (refine wpList_app _ rfl _ _ 37 37 rfl w1.heap.size 5 i0 (.int .u8 0) 1 1 Tryz.underlying37 hi hz0 hz1 hz2 rfl _ _ _ rfl (HO.out.alloc _) _ 1 [.int .u8 ((Mo.hexS[q % 16]'hd16).toNat : Int)] rfl ?c1 ?c2 ?c3 ?c4 ?_))
                case c1 => exact src_one Tryz.underlying37 _ _ _ rfl
                case c2 => unfold maxLen; omega
                case c3 => omega
                case c4 => have := HWS.out; simp; omega
                intro v2 w3 hown hgrow hat
                have hm3 : Mods [] w w3 := (HM.out.alloc _).grown hgrow (fun b hb => Or.inr (by have := (HO.out.lt b hb).1; have := HM0.out.size; omega))
                have hw3 : w1.heap.size ≤ w3.heap.size := by have := hgrow.size; have := HWS.out; simp at *; omega
                have HR := Lib.hid (HRL.out v2 true (7 - (t : Int) - 1) w3 (by simp [hq0]) (by omega) (by rw [HNX.out, if_neg hq0, ← Mo.hexS_at _ hd16]; simpa [byteV, Nat.add_assoc] using hown) hm3 hw3)
                obtain ⟨A3, c3, rfl⟩ := own_ctor hown
                clear hown hgrow hat hm3 hw3
                go_wp2_with fail
                exact ⟨HR.out, by simp only [intOf]; omega⟩

          · obtain rfl : t = 8 := by omega
            obtain ⟨g, cap, e, hcell⟩ := own_form1 HO.out (by omega)
            cases e
            have hcv := conv_bytes (w := wr) (g := g) (off := 0) co (Mo.Pl.baseL n ++ [43] ++ Mo.Pl.hexD r 8) (fun j x hx => by
              have := hcell j (byteV x) (by rw [List.getElem?_map, hx]; rfl)
              simpa using this)
            have hlen : (Mo.Pl.baseL n ++ [43] ++ Mo.Pl.hexD r 8).length = 14 + (Mo.Pl.hexD r 8).length := by
              rw [List.length_append, List.length_append, Mo.Pl.baseL_length]
              rfl
            rw [hlen] at hcv
            clear ho hm
            go_wp2_with fail
            go_ret
            exact ⟨by rw [HML.out, if_neg hr0]; rfl, HM.out⟩
end Go.Proofs.YtnpokdbpmnkbjaaGreatDoor
