/- The texts of a relay's errors; relay.malformed. -/
import Derived.Test.YtlgoeipgmjcboaaGreatDoorIo
import Derived.Test.YtlgoeipgmjcboaaGreatDoorRl
namespace Go.Proofs.YtlgoeipgmjcboaaGreatDoor
open Go.RowKit Me

theorem last_121 (w : World) : Calls Tryz.prog 185 #[.int .i64 121] w fun x w' => x = .returned (.string (wordOf 121)) ∧ w' = w := by
  go_enter Tryz.func185, Tryz.ntmps185
  go_wp2_with fail
  go_ret
  exact ⟨rfl, rfl⟩
theorem last_122 (w : World) : Calls Tryz.prog 185 #[.int .i64 122] w fun x w' => x = .returned (.string (wordOf 122)) ∧ w' = w := by
  go_enter Tryz.func185, Tryz.ntmps185
  go_wp2_with fail
  go_ret
  exact ⟨rfl, rfl⟩
theorem last_120 (w : World) : Calls Tryz.prog 185 #[.int .i64 120] w fun x w' => x = .returned (.string (wordOf 120)) ∧ w' = w := by
  go_enter Tryz.func185, Tryz.ntmps185
  go_wp2_with fail
  go_ret
  exact ⟨rfl, rfl⟩
theorem last_140 (w : World) : Calls Tryz.prog 185 #[.int .i64 140] w fun x w' => x = .returned (.string (wordOf 140)) ∧ w' = w := by
  go_enter Tryz.func185, Tryz.ntmps185
  go_wp2_with fail
  go_ret
  exact ⟨rfl, rfl⟩
theorem last_141 (w : World) : Calls Tryz.prog 185 #[.int .i64 141] w fun x w' => x = .returned (.string (wordOf 141)) ∧ w' = w := by
  go_enter Tryz.func185, Tryz.ntmps185
  go_wp2_with fail
  go_ret
  exact ⟨rfl, rfl⟩
theorem late_102 (w : World) : Calls Tryz.prog 118 #[.int .i64 102] w fun x w' => x = .returned (.string (wordOf 102)) ∧ w' = w := by
  go_enter Tryz.func118, Tryz.ntmps118
  go_wp2_with fail
  go_ret
  exact ⟨rfl, rfl⟩
theorem late_121 (w : World) : Calls Tryz.prog 118 #[.int .i64 121] w fun x w' => x = .returned (.string (wordOf 121)) ∧ w' = w := by
  go_enter Tryz.func118, Tryz.ntmps118
  go_wp2_with fail
  refine (last_121 _).mono ?_; rintro x w1 ⟨rfl, rfl⟩
  go_wp2_with fail
  go_ret
  exact ⟨rfl, rfl⟩
theorem late_122 (w : World) : Calls Tryz.prog 118 #[.int .i64 122] w fun x w' => x = .returned (.string (wordOf 122)) ∧ w' = w := by
  go_enter Tryz.func118, Tryz.ntmps118
  go_wp2_with fail
  refine (last_122 _).mono ?_; rintro x w1 ⟨rfl, rfl⟩
  go_wp2_with fail
  go_ret
  exact ⟨rfl, rfl⟩
theorem late_120 (w : World) : Calls Tryz.prog 118 #[.int .i64 120] w fun x w' => x = .returned (.string (wordOf 120)) ∧ w' = w := by
  go_enter Tryz.func118, Tryz.ntmps118
  go_wp2_with fail
  refine (last_120 _).mono ?_; rintro x w1 ⟨rfl, rfl⟩
  go_wp2_with fail
  go_ret
  exact ⟨rfl, rfl⟩
theorem late_140 (w : World) : Calls Tryz.prog 118 #[.int .i64 140] w fun x w' => x = .returned (.string (wordOf 140)) ∧ w' = w := by
  go_enter Tryz.func118, Tryz.ntmps118
  go_wp2_with fail
  refine (last_140 _).mono ?_; rintro x w1 ⟨rfl, rfl⟩
  go_wp2_with fail
  go_ret
  exact ⟨rfl, rfl⟩
theorem late_141 (w : World) : Calls Tryz.prog 118 #[.int .i64 141] w fun x w' => x = .returned (.string (wordOf 141)) ∧ w' = w := by
  go_enter Tryz.func118, Tryz.ntmps118
  go_wp2_with fail
  refine (last_141 _).mono ?_; rintro x w1 ⟨rfl, rfl⟩
  go_wp2_with fail
  go_ret
  exact ⟨rfl, rfl⟩
theorem error_32 (w : World) : Calls Tryz.prog 81 #[.int .i64 32] w fun x w' => x = .returned (.string (wordOf 32)) ∧ w' = w := by
  go_enter Tryz.func81, Tryz.ntmps81
  go_wp2_with fail
  go_ret
  exact ⟨rfl, rfl⟩
theorem error_33 (w : World) : Calls Tryz.prog 81 #[.int .i64 33] w fun x w' => x = .returned (.string (wordOf 33)) ∧ w' = w := by
  go_enter Tryz.func81, Tryz.ntmps81
  go_wp2_with fail
  go_ret
  exact ⟨rfl, rfl⟩
theorem error_102 (w : World) : Calls Tryz.prog 81 #[.int .i64 102] w fun x w' => x = .returned (.string (wordOf 102)) ∧ w' = w := by
  go_enter Tryz.func81, Tryz.ntmps81
  go_wp2_with fail
  refine (late_102 _).mono ?_; rintro x w1 ⟨rfl, rfl⟩
  go_wp2_with fail
  go_ret
  exact ⟨rfl, rfl⟩
theorem error_121 (w : World) : Calls Tryz.prog 81 #[.int .i64 121] w fun x w' => x = .returned (.string (wordOf 121)) ∧ w' = w := by
  go_enter Tryz.func81, Tryz.ntmps81
  go_wp2_with fail
  refine (late_121 _).mono ?_; rintro x w1 ⟨rfl, rfl⟩
  go_wp2_with fail
  go_ret
  exact ⟨rfl, rfl⟩
theorem error_122 (w : World) : Calls Tryz.prog 81 #[.int .i64 122] w fun x w' => x = .returned (.string (wordOf 122)) ∧ w' = w := by
  go_enter Tryz.func81, Tryz.ntmps81
  go_wp2_with fail
  refine (late_122 _).mono ?_; rintro x w1 ⟨rfl, rfl⟩
  go_wp2_with fail
  go_ret
  exact ⟨rfl, rfl⟩
theorem error_120 (w : World) : Calls Tryz.prog 81 #[.int .i64 120] w fun x w' => x = .returned (.string (wordOf 120)) ∧ w' = w := by
  go_enter Tryz.func81, Tryz.ntmps81
  go_wp2_with fail
  refine (late_120 _).mono ?_; rintro x w1 ⟨rfl, rfl⟩
  go_wp2_with fail
  go_ret
  exact ⟨rfl, rfl⟩
theorem error_140 (w : World) : Calls Tryz.prog 81 #[.int .i64 140] w fun x w' => x = .returned (.string (wordOf 140)) ∧ w' = w := by
  go_enter Tryz.func81, Tryz.ntmps81
  go_wp2_with fail
  refine (late_140 _).mono ?_; rintro x w1 ⟨rfl, rfl⟩
  go_wp2_with fail
  go_ret
  exact ⟨rfl, rfl⟩
theorem error_141 (w : World) : Calls Tryz.prog 81 #[.int .i64 141] w fun x w' => x = .returned (.string (wordOf 141)) ∧ w' = w := by
  go_enter Tryz.func81, Tryz.ntmps81
  go_wp2_with fail
  refine (late_141 _).mono ?_; rintro x w1 ⟨rfl, rfl⟩
  go_wp2_with fail
  go_ret
  exact ⟨rfl, rfl⟩
def isWord (e : Nat) : Prop := e = 32 ∨ e = 33 ∨ e = 102 ∨ e = 121 ∨ e = 122 ∨ e = 120 ∨ e = 140 ∨ e = 141
theorem error_any (e : Nat) (h : isWord e) (w : World) : Calls Tryz.prog 81 #[.int .i64 (e : Int)] w fun x w' => x = .returned (.string (wordOf e)) ∧ w' = w := by
  rcases h with rfl | rfl | rfl | rfl | rfl | rfl | rfl | rfl
  · exact error_32 w
  · exact error_33 w
  · exact error_102 w
  · exact error_121 w
  · exact error_122 w
  · exact error_120 w
  · exact error_140 w
  · exact error_141 w
theorem malformed_any (m : MsgP) (hs : SmallM m) {vn vq vd : Value} (w : World) (hr : MsgR w m vn vq vd) (hT : Lib.Utf8Tabs 4 5 w) :
    Calls Tryz.prog 56 #[.agg (msgC m vn vq vd).toArray] w fun e w' => e = .returned (.int .i64 (RelP.form m : Int)) ∧ Mods [] w w' := by
  have hM : IsM (w.alloc (.cells (msgC m vn vq vd).toArray 47)) w.heap.size m vn vq vd := ⟨heap_alloc_new w _, hr.mods ((Mods.refl [] w).alloc _)⟩
  have HM := Lib.hid hM
  have HT := Lib.hid (tabs_mods ((Mods.refl [] w).alloc (.cells (msgC m vn vq vd).toArray 47)) hT)
  have HM0 := Lib.hid ((Mods.refl [] w).alloc (.cells (msgC m vn vq vd).toArray 47))
  have HS := Lib.hid hs
  have c0 : (w.alloc (.cells (msgC m vn vq vd).toArray 47)).cell? ⟨w.heap.size, 0, none⟩ = some (.int .u8 (m.kind : Int)) := hM.cell 0
  clear hr hT hM hs
  generalize hmc : msgC m vn vq vd = mc at *
  have HMC := Lib.hid hmc
  clear hmc
  go_enter Tryz.func56, Tryz.ntmps56
  go_wp2_with fail
  refine (answer_any m.kind HS.out.kind _).mono ?_; rintro e w1 ⟨rfl, hm1⟩
  have M1 := Lib.hid (HM.out.mods hm1)
  have T1 := Lib.hid (tabs_mods hm1 HT.out)
  have MM1 := Lib.hid (HM0.out.trans hm1 (by simp))
  have d0 : w1.cell? ⟨w.heap.size, 0, none⟩ = some (.int .u8 (m.kind : Int)) := M1.out.cell 0
  have d1 : w1.cell? ⟨w.heap.size, 1, none⟩ = some (.int .u16 (m.tag : Int)) := M1.out.cell 1
  generalize w.heap.size = b at *
  clear hm1 c0 HM HT HM0
  generalize ((answerK m.kind).getD 0) = ak at *
  cases ha : answerK m.kind with
  | none =>
    have HF : Hid (RelP.form m = 32) := Lib.hid (by unfold RelP.form; rw [if_pos ha])
    clear ha
    go_wp2_with fail
    go_ret
    exact ⟨by rw [HF.out]; rfl, MM1.out⟩
  | some ak' =>
    have HA := Lib.hid ha
    clear ha
    have HZ := Lib.hid (size_any m HS.out w1 M1.out.lists T1.out)
    have R1 := Lib.hid M1.out.row
    obtain rfl := HMC.out
    by_cases hk : m.kind = 100
    · have hki : ((m.kind : Int) == 100) = true := by simpa using (by omega : (m.kind : Int) = 100)
      have HK := Lib.hid hk
      clear hk
      go_wp2_with (refine wpList_load_row rfl 47 _ rfl b rfl 47 (msgC m vn vq vd).toArray (0, 0) _ R1.out Tryz.underlying47 rfl (info47 m vn vq vd) ?_)
      refine HZ.out.mono ?_; rintro e w2 ⟨rfl, hm2⟩
      have MM2 := Lib.hid (MM1.out.trans hm2 (by simp))
      have g1 : w2.cell? ⟨b, 1, none⟩ = some (.int .u16 (m.tag : Int)) := (M1.out.mods hm2).cell 1
      have g2 : w2.cell? ⟨b, 2, none⟩ = some (.int .u32 (m.msize : Int)) := (M1.out.mods hm2).cell 2
      clear hm2 d0 d1
      by_cases hz : m.size = 0
      · have hzi : ((m.size : Int) == 0) = true := by simpa using (by omega : (m.size : Int) = 0)
        have HF : Hid (RelP.form m = 33) := Lib.hid (by unfold RelP.form; rw [if_neg (by rw [HA.out]; simp), if_pos hz])
        go_wp2_with fail
        go_ret
        exact ⟨by rw [HF.out]; rfl, MM2.out⟩
      · have hzi : ((m.size : Int) == 0) = false := by simpa using (by omega : ¬ (m.size : Int) = 0)
        by_cases ht : m.tag = 65535
        · have hti : ((m.tag : Int) == 65535) = true := by simpa using (by omega : (m.tag : Int) = 65535)
          by_cases hs : m.msize < 512
          · have hsi : decide ((m.msize : Int) < 512) = true := by simpa using (by omega : (m.msize : Int) < 512)
            have HF : Hid (RelP.form m = 122) := Lib.hid (by unfold RelP.form; rw [if_neg (by rw [HA.out]; simp), if_neg hz, if_neg (by rw [HK.out, ht]; simp), if_pos ⟨HK.out, hs⟩])
            go_wp2_with fail
            go_ret
            exact ⟨by rw [HF.out]; rfl, MM2.out⟩
          · have hsi : decide ((m.msize : Int) < 512) = false := by simpa using (by omega : ¬ (m.msize : Int) < 512)
            have HF : Hid (RelP.form m = 0) := Lib.hid (by unfold RelP.form; rw [if_neg (by rw [HA.out]; simp), if_neg hz, if_neg (by rw [HK.out, ht]; simp), if_neg (fun h => hs h.2)])
            go_wp2_with fail
            go_ret
            exact ⟨by rw [HF.out]; rfl, MM2.out⟩
        · have hti : ((m.tag : Int) == 65535) = false := by simpa using (by omega : ¬ (m.tag : Int) = 65535)
          have HF : Hid (RelP.form m = 120) := Lib.hid (by unfold RelP.form; rw [if_neg (by rw [HA.out]; simp), if_neg hz, if_pos (by rw [HK.out]; simp [ht])])
          go_wp2_with fail
          go_ret
          exact ⟨by rw [HF.out]; rfl, MM2.out⟩
    · have hki : ((m.kind : Int) == 100) = false := by simpa using (by omega : ¬ (m.kind : Int) = 100)
      have HK := Lib.hid hk
      clear hk
      go_wp2_with (refine wpList_load_row rfl 47 _ rfl b rfl 47 (msgC m vn vq vd).toArray (0, 0) _ R1.out Tryz.underlying47 rfl (info47 m vn vq vd) ?_)
      refine HZ.out.mono ?_; rintro e w2 ⟨rfl, hm2⟩
      have MM2 := Lib.hid (MM1.out.trans hm2 (by simp))
      have g1 : w2.cell? ⟨b, 1, none⟩ = some (.int .u16 (m.tag : Int)) := (M1.out.mods hm2).cell 1
      clear hm2 d0 d1
      by_cases hz : m.size = 0
      · have hzi : ((m.size : Int) == 0) = true := by simpa using (by omega : (m.size : Int) = 0)
        have HF : Hid (RelP.form m = 33) := Lib.hid (by unfold RelP.form; rw [if_neg (by rw [HA.out]; simp), if_pos hz])
        go_wp2_with fail
        go_ret
        exact ⟨by rw [HF.out]; rfl, MM2.out⟩
      · have hzi : ((m.size : Int) == 0) = false := by simpa using (by omega : ¬ (m.size : Int) = 0)
        by_cases ht : m.tag = 65535
        · have hti : ((m.tag : Int) == 65535) = true := by simpa using (by omega : (m.tag : Int) = 65535)
          have HF : Hid (RelP.form m = 120) := Lib.hid (by unfold RelP.form; rw [if_neg (by rw [HA.out]; simp), if_neg hz, if_pos (by simp [HK.out, ht])])
          go_wp2_with fail
          go_ret
          exact ⟨by rw [HF.out]; rfl, MM2.out⟩
        · have hti : ((m.tag : Int) == 65535) = false := by simpa using (by omega : ¬ (m.tag : Int) = 65535)
          have HF : Hid (RelP.form m = 0) := Lib.hid (by unfold RelP.form; rw [if_neg (by rw [HA.out]; simp), if_neg hz, if_neg (by simp [HK.out, ht]), if_neg (fun h => HK.out h.1)])
          go_wp2_with fail
          go_ret
          exact ⟨by rw [HF.out]; rfl, MM2.out⟩
end Go.Proofs.YtlgoeipgmjcboaaGreatDoor
