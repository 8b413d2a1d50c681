/- The walk of the law StatModes: it returns true for every input; nothing that was there before the call has turned. -/
import Derived.Test.YtedddekkbgaolaaParse
namespace Go.Proofs.Ytedddekkbgaolaa
open Go.RowKit
theorem parse_mode (n : Nat) (hn : n < 4294967296) (w : World) :
    Calls Try.prog 5 #[.string ⟨(Pl.modeL n).toArray⟩] w fun e w' => e = .returned (.tuple #[.int .u32 (n : Int), .int .i64 0]) ∧ Below w.heap.size w w' := by
  have hl := Pl.modeL_length n
  refine (parse_any ⟨(Pl.modeL n).toArray⟩ w (by show (Pl.modeL n).toArray.size ≤ _; unfold maxLen; simp; omega)).mono ?_
  rintro e w' ⟨rfl, hb⟩
  refine ⟨?_, hb⟩
  have := Pl.parse_modeL n hn
  simp only [this]
  rfl

/-- What the reader says of a text: it is a number's text and that number, or no number's. -/
theorem parse_two (l : List UInt8) : (∃ z, z < 4294967296 ∧ Pl.parse l = (z, 0) ∧ Pl.modeL z = l) ∨ Pl.parse l = (0, 21) := by
  by_cases h : (Pl.parse l).2 = 0
  · obtain ⟨h1, h2⟩ := Pl.parse_ok l h
    exact Or.inl ⟨_, h2, by rw [← h], h1⟩
  · exact Or.inr (Pl.parse_bad l h)

set_option maxHeartbeats 1000000 in
theorem modes_small (n m : Nat) (hn : n < 4294967296) (hm : m < 4294967296) (s : ByteArray) (w : World) (h1 : s.size ≤ 268435456) :
    Calls Try.prog 3 #[.int .u32 n, .int .u32 m, .string s] w fun e w' => e = .returned (.bool true) ∧ Below w.heap.size w w' := by
  have hpa := fun W => parse_any s W (by unfold maxLen; omega)
  have HPA := Lib.hid hpa
  clear hpa
  go_enter Try.func3, Try.ntmps3
  go_wp2_with fail
  refine (mode_any n hn _).mono ?_; rintro e w1 ⟨rfl, hb1⟩
  go_wp2_with fail
  refine (mode_any m hm _).mono ?_; rintro e w2 ⟨rfl, hb2⟩
  go_wp2_with fail
  refine (parse_mode n hn _).mono ?_; rintro e w3 ⟨rfl, hb3⟩
  go_wp2_with fail
  refine (parse_mode m hm _).mono ?_; rintro e w4 ⟨rfl, hb4⟩
  have hb : Below w.heap.size w w4 := ((hb1.trans (hb2.mono hb1.size)).trans (hb3.mono (hb1.trans (hb2.mono hb1.size)).size)).trans (hb4.mono ((hb1.trans (hb2.mono hb1.size)).trans (hb3.mono (hb1.trans (hb2.mono hb1.size)).size)).size)
  clear hb1 hb2 hb3 hb4
  by_cases hnm : n = m
  · subst hnm
    go_wp2_with fail
    rcases parse_two s.data.toList with ⟨z, hz, hp, hl⟩ | hp
    · refine (HPA.out _).mono ?_; rintro e w5 ⟨rfl, hb5⟩
      rw [hp]
      have HL := Lib.hid hl
      have hs : (Pl.modeL z == s.toList) = true := by rw [toList_data, HL.out]; exact beq_self_eq_true _
      clear hp hl HPA
      go_wp2_with fail
      refine (mode_any z hz _).mono ?_; rintro e w6 ⟨rfl, hb6⟩
      go_wp2_with fail
      go_ret
      exact ⟨rfl, (hb.trans (hb5.mono hb.size)).trans (hb6.mono (hb.trans (hb5.mono hb.size)).size)⟩
    · refine (HPA.out _).mono ?_; rintro e w5 ⟨rfl, hb5⟩
      rw [hp]
      clear hp HPA
      go_wp2_with fail
      go_ret
      exact ⟨rfl, hb.trans (hb5.mono hb.size)⟩
  · have hbn : (Pl.modeL n == Pl.modeL m) = false := by
      rw [beq_eq_false_iff_ne]
      exact fun h => hnm (Pl.modeL_inj n m hn hm h)
    have hnm' : ((n : Int) == (m : Int)) = false := by rw [beq_eq_false_iff_ne]; omega
    clear hnm
    go_wp2_with fail
    rcases parse_two s.data.toList with ⟨z, hz, hp, hl⟩ | hp
    · refine (HPA.out _).mono ?_; rintro e w5 ⟨rfl, hb5⟩
      rw [hp]
      have HL := Lib.hid hl
      have hs : (Pl.modeL z == s.toList) = true := by rw [toList_data, HL.out]; exact beq_self_eq_true _
      clear hp hl HPA
      go_wp2_with fail
      refine (mode_any z hz _).mono ?_; rintro e w6 ⟨rfl, hb6⟩
      go_wp2_with fail
      go_ret
      exact ⟨rfl, (hb.trans (hb5.mono hb.size)).trans (hb6.mono (hb.trans (hb5.mono hb.size)).size)⟩
    · refine (HPA.out _).mono ?_; rintro e w5 ⟨rfl, hb5⟩
      rw [hp]
      clear hp HPA
      go_wp2_with fail
      go_ret
      exact ⟨rfl, hb.trans (hb5.mono hb.size)⟩
theorem modes_any (n m : Nat) (hn : n < 4294967296) (hm : m < 4294967296) (s : ByteArray) (w : World) (hs : s.size ≤ maxLen) :
    Calls Try.prog 3 #[.int .u32 n, .int .u32 m, .string s] w fun e w' => e = .returned (.bool true) ∧ Below w.heap.size w w' := by
  by_cases h1 : s.size ≤ 268435456
  · exact modes_small n m hn hm s w h1
  · unfold maxLen at hs
    go_enter Try.func3, Try.ntmps3
    go_wp2_with fail
    go_ret
    exact ⟨rfl, Below.refl _ _⟩
end Go.Proofs.Ytedddekkbgaolaa
