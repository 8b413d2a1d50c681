/- The reference's Clean, parts, bits. -/
import Derived.Test.YtmcekhgmmocajaaGreatDoorRj
namespace Go.Proofs.YtmcekhgmmocajaaGreatDoor
open Go.RowKit Me

set_option maxRecDepth 100000 in
set_option maxHeartbeats 1000000 in
theorem rclean_any (s : ByteArray) (w : World) (hs : s.size ≤ 200000000) :
    Calls Tryz.prog 61 #[.string s] w fun e w' => e = .returned (.tuple #[.string (if fit (pieces s) then cleanB s else ⟨#[]⟩), .int .i64 (if fit (pieces s) then 0 else 51)]) ∧ Mods [] w w' := by
  have H1 := Lib.hid (rsplit_any s w (by omega))
  have hl := pieces_length s
  have hcb := Lib.countB_le ⟨#[47]⟩ (by decide) _ s (Nat.le_refl _)
  have hk : (kept (pieces s)).length ≤ 4294967290 := by
    refine Nat.le_trans (List.length_filter_le _ _) ?_
    omega
  have hkj : lenJ (kept (pieces s)) ≤ 100000000000 := by
    have := lenJ_sub (show (kept (pieces s)).Sublist (pieces s) from List.filter_sublist)
    rw [lenJ_pieces] at this
    omega
  have HC := Lib.hid (show cleanB s = joinP (rootedB s) (reduce (rootedB s) (kept (pieces s))) from rfl)
  rw [HC.out]
  generalize rootedB s = r at *
  generalize pieces s = P at *
  cases hf : fit P
  · simp only [hf, Bool.false_and, Bool.false_eq_true, if_false] at H1 ⊢
    clear HC hl hcb hk hkj
    go_enter Tryz.func61, Tryz.ntmps61
    go_wp2_with fail
    refine H1.out.mono ?_; rintro e w1 ⟨v, rfl, hm, ho⟩
    obtain ⟨A, c, rfl⟩ := own_ctor ho
    have HM := Lib.hid hm
    clear hm ho
    go_wp2_with fail
    refine bodyPost_ret (v := .tuple #[.string ⟨#[]⟩, .int .i64 51]) (by simp [results, Tryz.results61, go_sem]) rfl ?_
    exact ⟨rfl, HM.out.alloc _⟩
  · simp only [hf, Bool.true_and, if_true] at H1 ⊢
    generalize kept P = L at *
    clear HC hl hcb hf
    go_enter Tryz.func61, Tryz.ntmps61
    go_wp2_with fail
    refine H1.out.mono ?_; rintro e w0 ⟨v, rfl, hm, ho⟩
    obtain ⟨A, c, rfl⟩ := own_ctor ho
    have HM := Lib.hid (hm.alloc (.cells #[.bool r, .slice A L.length c] 103))
    have HR := Lib.hid (rreduced_any r L (.slice A L.length c) (w0.alloc (.cells #[.bool r, .slice A L.length c] 103)) (Rd.of_own (ho.alloc _)) hk)
    clear hm ho H1
    go_wp2_with fail
    generalize w0.alloc (.cells #[.bool r, .slice A L.length c] 103) = w1 at *
    refine HR.out.mono ?_; rintro e w2 ⟨u, rfl, hm, ho⟩
    obtain ⟨A2, c2, rfl⟩ := own_ctor ho
    have HM2 := Lib.hid ((HM.out.trans hm (by simp)).alloc (.cells #[.bool r, .slice A2 (reduce r L).length c2] 103))
    have hrl := reduce_length r L L.length
    rw [List.take_length] at hrl
    have HJ := Lib.hid (rjoin_any r (reduce r L) (.slice A2 (reduce r L).length c2) (w2.alloc (.cells #[.bool r, .slice A2 (reduce r L).length c2] 103)) (Rd.of_own (ho.alloc _)) (by omega) (Nat.le_trans (lenJ_sub (reduce_sub r L)) hkj))
    clear hm ho HR
    go_wp2_with fail
    generalize w2.alloc (.cells #[.bool r, .slice A2 (reduce r L).length c2] 103) = w3 at *
    refine HJ.out.mono ?_; rintro e w4 ⟨rfl, hm⟩
    have HM4 := Lib.hid (HM2.out.trans hm (by simp))
    clear hm HJ
    go_wp2_with fail
    refine bodyPost_ret (v := .tuple #[.string (joinP r (reduce r L)), .int .i64 0]) (by simp [results, Tryz.results61, go_sem]) rfl ?_
    exact ⟨rfl, HM4.out⟩
/-- The parts as the reference tells them. -/
def partsR (s : ByteArray) : List ByteArray := if fit (pieces s) then kept (pieces s) else []
theorem rparts_any (s : ByteArray) (w : World) (hs : s.size ≤ 4294967280) :
    Calls Tryz.prog 101 #[.string s] w fun x w' => ∃ v, x = .returned v ∧ Rd w' v ((partsR s).map Value.string) ∧ Mods [] w w' := by
  have H1 := Lib.hid (rsplit_any s w hs)
  have HP : Hid (∀ w' v, w'.ownsRow w.heap.size 9 1 v (if fit (pieces s) then (kept (pieces s)).length else 0) (if fit (pieces s) then (kept (pieces s)).map Value.string else []) → Rd w' v ((partsR s).map Value.string)) := Lib.hid (fun w' v h => by
    unfold partsR
    split <;> rename_i hf <;> simp only [hf] at h
    · exact Rd.of_own h
    · exact Rd.of_own h)
  generalize partsR s = L at *
  go_enter Tryz.func101, Tryz.ntmps101
  go_wp2_with fail
  refine H1.out.mono ?_; rintro e w1 ⟨v, rfl, hm, ho⟩
  have hr := HP.out w1 v ho
  have HR := Lib.hid (hr.mods ((Mods.refl [] w1).alloc (.cells #[.bool (fit (pieces s) && rootedB s), v] 103)) (by simp))
  have HM := Lib.hid (hm.alloc (.cells #[.bool (fit (pieces s) && rootedB s), v] 103))
  obtain ⟨A, c, rfl, -⟩ := hr
  simp only [List.length_map] at *
  generalize (fit (pieces s) && rootedB s) = rr at *
  generalize (if fit (pieces s) = true then (0 : Int) else 51) = ee at *
  clear hm ho H1 HP
  go_wp2_with fail
  go_ret
  exact ⟨_, rfl, HR.out, HM.out⟩
def seqB : List Nat := [2147483648, 1073741824, 536870912, 67108864]
def restN (m k : Nat) : Nat := (seqB.take k).foldl sub1 m
theorem restN_lt (m k : Nat) (h : m < 4294967296) : restN m k < 4294967296 := by
  unfold restN
  generalize seqB.take k = l
  induction l generalizing m with
  | nil => exact h
  | cons x l ih =>
    refine ih _ ?_
    unfold sub1
    split <;> omega
theorem restN_next (m k x : Nat) (h : seqB[k]? = some x) : restN m (k + 1) = sub1 (restN m k) x := by
  unfold restN
  rw [List.take_add_one, h, List.foldl_append]
  rfl
def RelBi (m : Nat) (w : World) (v i : Value) (wr : World) : Prop := ∃ k : Nat, k ≤ 4 ∧ i = .int .i64 (k : Int) ∧ v = .int .u32 (restN m k : Nat) ∧ w = wr
set_option maxRecDepth 100000 in
theorem bits_any (m : Nat) (w : World) (h : m < 4294967296) :
    Calls Tryz.prog 65 #[.int .u32 (m : Int)] w fun x w' => x = .returned (.bool (decide (bitsRest m < 512))) ∧ Mods [] w w' := by
  have HX := Lib.hid (heap_alloc_new w (.cells #[.int .u32 2147483648, .int .u32 1073741824, .int .u32 536870912, .int .u32 67108864] 45))
  have HM := Lib.hid ((Mods.refl [] w).alloc (.cells #[.int .u32 2147483648, .int .u32 1073741824, .int .u32 536870912, .int .u32 67108864] 45))
  have HE := Lib.hid (show bitsRest m = restN m 4 from rfl)
  go_enter Tryz.func65, Tryz.ntmps65
  go_wp2_with fail
  generalize w.alloc (.cells #[.int .u32 2147483648, .int .u32 1073741824, .int .u32 536870912, .int .u32 67108864] 45) = w1 at *
  go_loopw [3, 9] (fun v i wr => RelBi m w1 v i wr) (fun _ i _ => 4 - (intOf i).toNat)
  case atStart => exact ⟨0, by omega, rfl, rfl, rfl⟩
  case round =>
    obtain ⟨k, hk, rfl, rfl, rfl⟩ := hrel
    have hlt := restN_lt m k h
    rcases Nat.lt_or_ge k 4 with hk4 | hge
    · obtain ⟨x, hx⟩ : ∃ x, seqB[k]? = some x := ⟨_, List.getElem?_eq_getElem hk4⟩
      have hc : w1.cell? ⟨w.heap.size, k, none⟩ = some (.int .u32 (x : Int)) := by
        rw [cell_of_row _ _ _ _ _ _ HX.out]
        rcases (show k = 0 ∨ k = 1 ∨ k = 2 ∨ k = 3 by omega) with rfl | rfl | rfl | rfl <;> (simp [seqB] at hx; subst hx; rfl)
      have HN := Lib.hid (restN_next m k x hx)
      generalize restN m k = cur at *
      clear hx
      by_cases hle : x ≤ cur
      · have HV : Hid (((restN m (k + 1) : Nat) : Int) = (cur : Int) - (x : Int)) := Lib.hid (by rw [HN.out]; unfold sub1; rw [if_pos hle]; omega)
        go_wp2_with fail
        exact ⟨⟨k + 1, by omega, rfl, by rw [HV.out], rfl⟩, by simp only [intOf]; omega⟩
      · have HV : Hid (restN m (k + 1) = cur) := Lib.hid (by rw [HN.out]; unfold sub1; rw [if_neg hle])
        go_wp2_with fail
        exact ⟨⟨k + 1, by omega, rfl, by rw [HV.out], rfl⟩, by simp only [intOf]; omega⟩
    · obtain rfl : k = 4 := by omega
      have HB : Hid (decide (((restN m 4 : Nat) : Int) < 512) = decide (bitsRest m < 512)) := Lib.hid (by rw [HE.out]; exact decide_eq_decide.2 (by omega))
      generalize restN m 4 = cur at *
      go_wp2_with fail
      go_ret
      exact ⟨by rw [← HB.out]; rfl, HM.out⟩
end Go.Proofs.YtmcekhgmmocajaaGreatDoor
