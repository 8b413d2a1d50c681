/- The walk of StatNumbers. -/
import Derived.Test.YtedddekkbgaolaaDoorAw
namespace Go.Proofs.YtedddekkbgaolaaDoor
open Go.RowKit Me

def twos : Array Value := #[.int .u16 1, .int .u16 2, .int .u16 4, .int .u16 8, .int .u16 16, .int .u16 32, .int .u16 64, .int .u16 128, .int .u16 256, .int .u16 512, .int .u16 1024, .int .u16 2048, .int .u16 4096]
theorem twos_eq : twos = ((List.range 13).map fun k => Value.int .u16 ((2 ^ k : Nat) : Int)).toArray := rfl
theorem twos_at {k : Nat} (h : k < 13) : twos[k]? = some (.int .u16 ((2 ^ k : Nat) : Int)) := by
  rw [twos_eq]
  simp [h]
theorem two_pow_le {k : Nat} (h : k < 13) : 2 ^ k ≤ 4096 := Nat.pow_le_pow_right (n := 2) (by omega) (by omega : k ≤ 12)
def RelTwos (w : World) (n i : Value) (wr : World) : Prop := ∃ k : Nat, k ≤ 13 ∧ i = .int .i64 k ∧ n = .int .u16 ((2 ^ k : Nat) : Int) ∧ w = wr
set_option maxHeartbeats 1000000 in
theorem numbers_any (w : World) (hT : Lib.Utf8Tabs 0 1 w) :
    Calls Tryd.prog 11 #[] w fun e w' => e = .returned (.bool true) ∧ Mods [] w w' := by
  have B0 := Lib.hid (heap_alloc_new w (.cells twos 84))
  have M0 := Lib.hid ((Mods.refl [] w).alloc (.cells twos 84))
  have T0 := Lib.hid (tabs_mods M0.out hT)
  clear hT
  unfold twos at B0 M0 T0
  go_enter Tryd.func11, Tryd.ntmps11
  go_wp2_with fail
  generalize w.alloc (.cells #[.int .u16 1, .int .u16 2, .int .u16 4, .int .u16 8, .int .u16 16, .int .u16 32, .int .u16 64, .int .u16 128, .int .u16 256, .int .u16 512, .int .u16 1024, .int .u16 2048, .int .u16 4096] 84) = w1 at *
  go_loopw [2, 3] (fun n i wr => RelTwos w1 n i wr) (fun _ i _ => 13 - (intOf i).toNat)
  case atStart => exact ⟨0, by omega, rfl, rfl, rfl⟩
  case round =>
    obtain ⟨k, hk, rfl, rfl, rfl⟩ := hrel
    rcases Nat.lt_or_ge k 13 with hlt | hge
    · have hc : w1.cell? ⟨w.heap.size, k, none⟩ = some (.int .u16 ((2 ^ k : Nat) : Int)) := (cell_of_row _ _ _ _ _ _ B0.out).trans (twos_at hlt)
      have hle := two_pow_le hlt
      have HN := Lib.hid (show 2 ^ (k + 1) = 2 ^ k * 2 from Nat.pow_succ 2 k)
      generalize 2 ^ k = q at *
      go_wp2_with fail
      exact ⟨⟨k + 1, by omega, rfl, by rw [HN.out]; congr 1, rfl⟩, by simp only [intOf]; omega⟩
    · obtain rfl : k = 13 := by omega
      go_wp2_with fail
      refine (awake_any _ T0.out).mono ?_; rintro e w2 ⟨rfl, hm⟩
      have M2 := Lib.hid (M0.out.trans hm (by simp))
      clear hm
      go_wp2_with fail
      go_ret
      exact ⟨rfl, M2.out⟩
end Go.Proofs.YtedddekkbgaolaaDoor
