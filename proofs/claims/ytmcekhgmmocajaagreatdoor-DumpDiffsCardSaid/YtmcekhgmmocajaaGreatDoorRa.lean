/- The reference's Check. -/
import Derived.Test.YtmcekhgmmocajaaGreatDoorNp
import Derived.Test.YtmcekhgmmocajaaGreatDoorCg
namespace Go.Proofs.YtmcekhgmmocajaaGreatDoor
open Go.RowKit Me

theorem slash_iff (l : List UInt8) : decide (0 ≤ Lib.indexByte l 47) = decide ((47 : UInt8) ∈ l) := by
  rcases cut_index l with ⟨i, h1, h2, h3⟩ | ⟨h1, h2⟩
  · have : (47 : UInt8) ∈ l := List.mem_of_getElem? (indexByte_at l i h1)
    rw [h1]
    simp [this]
  · have : (47 : UInt8) ∉ l := cut_mem l l (by rw [h2]; simp)
    rw [h1]
    simp [this]
def RelCk (s : ByteArray) (w : World) (i : Value) (wr : World) : Prop := ∃ k : Nat, k ≤ s.size ∧ i = .int .i64 k ∧ (47 : UInt8) ∉ s.data.toList.take k ∧ w = wr
theorem byte_at (s : ByteArray) (k : Nat) (h : k < s.size) : s.data.toList[k]? = some s[k] := by
  rw [Array.getElem?_toList]
  exact Array.getElem?_eq_getElem h
set_option maxRecDepth 100000 in
set_option maxHeartbeats 1000000 in
theorem rcheck_any (s : ByteArray) (w : World) (hs : s.size ≤ 1099511627776) :
    Calls Tryz.prog 99 #[.string s] w fun e w' => e = .returned (.int .i64 (if nameOk s then 0 else 50)) ∧ w = w' := by
  have H := Lib.hid (rgood_any s w hs)
  have HQ := Lib.hid (show nameOk s = (!s.toList.isEmpty && !(s.toList == [46]) && !(s.toList == [46, 46]) && decide (s.size ≤ 255) && !decide (0 ≤ Lib.indexByte s.data.toList 47) && Tx.good s.data.toList) from rfl)
  have HI := Lib.hid (slash_iff s.data.toList)
  generalize nameOk s = v at *
  obtain ⟨r, hr⟩ : ∃ r : Int, (if v then 0 else 50) = r := ⟨_, rfl⟩
  have HRR := Lib.hid hr
  rw [hr]
  clear hr
  generalize decide (0 ≤ Lib.indexByte s.data.toList 47) = c at *
  generalize Tx.good s.data.toList = g at *
  go_enter Tryz.func99, Tryz.ntmps99
  go_wp2_with fail
  refine H.out.mono ?_
  rintro x w1 ⟨rfl, rfl⟩
  cases e1 : s.toList.isEmpty
  rotate_left
  · have HV : Hid (v = false) := Lib.hid (by rw [HQ.out, e1]; rfl)
    go_wp2_with fail
    go_ret
    exact ⟨by rw [← HRR.out, HV.out]; rfl, rfl⟩
  cases e2 : s.toList == [46]
  rotate_left
  · have HV : Hid (v = false) := Lib.hid (by rw [HQ.out, e2]; simp)
    go_wp2_with fail
    go_ret
    exact ⟨by rw [← HRR.out, HV.out]; rfl, rfl⟩
  cases e3 : s.toList == [46, 46]
  rotate_left
  · have HV : Hid (v = false) := Lib.hid (by rw [HQ.out, e3]; simp)
    go_wp2_with fail
    go_ret
    exact ⟨by rw [← HRR.out, HV.out]; rfl, rfl⟩
  cases g
  · have HV : Hid (v = false) := Lib.hid (by rw [HQ.out]; simp)
    go_wp2_with fail
    go_ret
    exact ⟨by rw [← HRR.out, HV.out]; rfl, rfl⟩
  by_cases h5 : 255 < s.size
  · have HV : Hid (v = false) := Lib.hid (by rw [HQ.out, decide_eq_false (show ¬ s.size ≤ 255 by omega)]; simp)
    go_wp2_with fail
    go_ret
    exact ⟨by rw [← HRR.out, HV.out]; rfl, rfl⟩
  have HV : Hid (v = !c) := Lib.hid (by rw [HQ.out, e1, e2, e3, decide_eq_true (show s.size ≤ 255 by omega)]; simp)
  clear HQ
  go_wp2_with fail
  go_loopw [4] (fun i wr => RelCk s w i wr) (fun i _ => s.size - (intOf i).toNat)
  case atStart => exact ⟨0, by omega, rfl, by simp, rfl⟩
  case round =>
    obtain ⟨k, hk, rfl, hno, rfl⟩ := hrel
    rcases Nat.lt_or_ge k s.size with hlt | hge
    · have hb := byte_at s k hlt
      by_cases h47 : s[k] = 47
      · have HC : Hid (c = true) := Lib.hid (by
          rw [HI.out]
          exact decide_eq_true (List.mem_of_getElem? (by rw [hb, h47])))
        have h47' : s[k].toNat = 47 := by rw [h47]; rfl
        generalize s[k].toNat = bk at *
        clear hno hb
        go_wp2_with fail
        go_ret
        exact ⟨by rw [← HRR.out, HV.out, HC.out]; rfl, rfl⟩
      · have h47' : ((s[k].toNat : Int) == 47) = false := by
          simp
          intro e
          exact h47 (UInt8.toNat_inj.1 (by simpa using (show s[k].toNat = 47 by omega)))
        have HN : Hid ((47 : UInt8) ∉ s.data.toList.take (k + 1)) := Lib.hid (by
          rw [List.take_add_one, hb]
          simp only [List.mem_append, Option.toList_some, List.mem_singleton, not_or]
          exact ⟨hno, fun e => h47 e.symm⟩)
        clear hno hb
        go_wp2_with fail
        exact ⟨⟨k + 1, by omega, rfl, HN.out, rfl⟩, by simp only [intOf]; omega⟩
    · obtain rfl : k = s.size := by omega
      have HC : Hid (c = false) := Lib.hid (by
        rw [HI.out]
        rw [List.take_of_length_le (by simp)] at hno
        exact decide_eq_false hno)
      clear hno
      go_wp2_with fail
      go_ret
      exact ⟨by rw [← HRR.out, HV.out, HC.out]; rfl, rfl⟩
end Go.Proofs.YtmcekhgmmocajaaGreatDoor
