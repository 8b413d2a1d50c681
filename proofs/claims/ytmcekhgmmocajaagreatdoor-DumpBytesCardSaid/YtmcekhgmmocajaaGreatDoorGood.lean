/- The walks of wire.bad, wire.Good and wire.Cut: what they compute, said of the plain text. -/
import Derived.Test.YtmcekhgmmocajaaGreatDoorRead
import Derived.Test.YtmcekhgmmocajaaGreatDoorShelf
import Derived.Test.YtmcekhgmmocajaaGreatDoorRows
import Derived.WalkKit
import Derived.WalkSpells
import Derived.WalkLawsBesides
import Derived.Lib.Hide
import Derived.Lib.OthersKept
namespace Go.Proofs.YtmcekhgmmocajaaGreatDoor
open Go.RowKit

theorem tabs_below {B : Nat} {w w' : World} (h : Below B w w') (hB : 3 ≤ B) (hT : Lib.Utf8Tabs 1 2 w) : Lib.Utf8Tabs 1 2 w' :=
  ⟨fun c hc => (h.cell (p := ⟨1, c, none⟩) (by show 1 < B; omega)).trans (hT.1 c hc),
   fun i hi => ⟨(h.cell (p := ⟨2, 2 * i, none⟩) (by show 2 < B; omega)).trans (hT.2 i hi).1, (h.cell (p := ⟨2, 2 * i + 1, none⟩) (by show 2 < B; omega)).trans (hT.2 i hi).2⟩⟩
theorem tabs_two {w : World} (hT : Lib.Utf8Tabs 1 2 w) : 3 ≤ w.heap.size := by
  have := World.block_lt_of_cell? w _ (hT.2 0 (by omega)).1
  simp at this
  omega
theorem tabs_keep {w w' : World} (h : Below w.heap.size w w') (hT : Lib.Utf8Tabs 1 2 w) : Lib.Utf8Tabs 1 2 w' := tabs_below h (tabs_two hT) hT

/-- Where the reading stands: ahead of it all is well. -/
def RelBad (s : ByteArray) (w wr : World) : Prop :=
  ∃ p : Nat, p ≤ s.size ∧ wr.heap[w.heap.size]? = some (.stringIter s p) ∧ Below w.heap.size w wr ∧ Tx.badL s.data.toList = p + Tx.badL (s.data.toList.drop p)

theorem size_list (s : ByteArray) : s.data.toList.length = s.size := by simp

/-- What bad answers. -/
def badV (s : ByteArray) : Int := if Tx.good s.data.toList then -1 else (Tx.badL s.data.toList : Int)
theorem badV_at {s : ByteArray} {p : Nat} (hp : p < s.size) (he : Tx.badL s.data.toList = p + Tx.badL (s.data.toList.drop p)) (hb : Tx.chr (s.data.toList.drop p) = 0 ∨ Tx.bt (s.data.toList.drop p) 0 = 0) : badV s = (p : Int) := by
  rw [Tx.badL_bad hb] at he
  have := size_list s
  have hg : Tx.good s.data.toList = false := by
    rw [Bool.eq_false_iff, Ne, Tx.good_iff]
    omega
  simp [badV, hg, he]
theorem badV_end {s : ByteArray} (he : Tx.badL s.data.toList = s.size + Tx.badL (s.data.toList.drop s.size)) : badV s = -1 := by
  have h0 : s.data.toList.drop s.size = [] := List.drop_of_length_le (by rw [size_list]; exact Nat.le_refl _)
  rw [h0, Tx.badL_nil] at he
  have := size_list s
  have hg : Tx.good s.data.toList = true := by
    rw [Tx.good_iff]
    omega
  simp [badV, hg]

set_option maxHeartbeats 1000000 in
theorem bad_any (s : ByteArray) (w : World) (_hs : s.size ≤ maxLen) (hT : Lib.Utf8Tabs 1 2 w) :
    Calls Tryz.prog 92 #[.string s] w fun e w' => e = .returned (.int .i64 (badV s)) ∧ Below w.heap.size w w' := by
  unfold maxLen at _hs
  have h2 := tabs_two hT
  go_enter Tryz.func92, Tryz.ntmps92
  go_wp2_with fail
  go_loopw [] (fun wr => RelBad s w wr) (fun wr => s.size - wr.iterPos w.heap.size)
  case atStart => exact ⟨0, Nat.zero_le _, World.iter_heap _ _ _, (Below.refl _ _).alloc (Nat.le_refl _) _, by simp⟩
  case round =>
    obtain ⟨p, hp, hk, hb, he⟩ := hrel
    have HK := Lib.hid hk
    have HE := Lib.hid he
    have hit := iterPos_of hk
    have HI := Lib.hid hit
    clear hk he hit
    rcases Nat.lt_or_ge p s.size with hlt | hge
    · obtain ⟨r, n, hd⟩ : ∃ r n, Utf8.decode s p = (r, n) := ⟨_, _, rfl⟩
      have hnx := fun ty => Lib.run_next_any_at (P := Tryz.prog) wr w.heap.size s p ty HK.out hlt
      simp only [hd] at hnx
      have hdt := Tx.decode_text s p hlt
      have hdw := Tx.decode_tail s p
      rw [hd] at hdt hdw
      have hr31 : r ≤ 2147483647 := by have := decode_le s p; rw [hd] at this; exact this
      have hk' : (wr.iterAt w.heap.size s (p + n)).heap[w.heap.size]? = some (.stringIter s (p + n)) := Lib.iterAt_heap _ _ _ _ _ HK.out
      have hb' : Below w.heap.size w (wr.iterAt w.heap.size s (p + n)) := Lib.below_iterAt hb (Nat.le_refl _) _ _
      have hT' := tabs_below hb' h2 hT
      have hc := Tryz.utf8_DecodeRuneInString (s.extract p s.size) _ hT'
      have hgo : Lib.decodeGo (s.extract p s.size) = (r, n) := by
        unfold Lib.decodeGo
        rw [if_neg (by simp; omega), hdw]
      rw [hgo] at hc
      have HC := Lib.hid hc
      have HK' := Lib.hid hk'
      clear hc hk' hgo hdw
      by_cases hb0 : Tx.chr (s.data.toList.drop p) = 0
      · obtain ⟨rfl, rfl⟩ : r = 65533 ∧ n = 1 := by have := hdt.1 hb0; simpa using this
        clear hdt
        have HB := Lib.hid hb0
        clear hb0
        go_wp2_with fail
        refine HC.out.mono ?_; rintro e w1 ⟨rfl, hb1⟩
        go_wp2_with fail
        go_ret
        exact ⟨by rw [badV_at hlt HE.out (Or.inl HB.out)]; rfl, hb'.trans (hb1.mono hb'.size)⟩
      · obtain ⟨hn, h00, h33⟩ := hdt.2 hb0
        clear hdt
        by_cases hz : Tx.bt (s.data.toList.drop p) 0 = 0
        · obtain rfl : r = 0 := h00.2 hz
          have HB := Lib.hid hz
          clear hz h00 h33 hn hb0
          go_wp2_with fail
          go_ret
          exact ⟨by rw [badV_at hlt HE.out (Or.inr HB.out)]; rfl, hb'⟩
        · have hr0 : r ≠ 0 := fun e => hz (h00.1 e)
          have hle := Tx.chr_le (s.data.toList.drop p)
          have hstep : p + n ≤ s.size ∧ 1 ≤ n ∧ Tx.badL s.data.toList = (p + n) + Tx.badL (s.data.toList.drop (p + n)) := by
            simp only at hn
            have hz1 := size_list s
            rw [List.length_drop] at hle
            refine ⟨by omega, by omega, ?_⟩
            rw [HE.out, Tx.badL_good hb0 hz, List.drop_drop, ← hn]
            omega
          obtain ⟨hs1, hs2, hs3⟩ := hstep
          have HS := Lib.hid hs3
          have hit' := iterPos_of HK'.out
          have HI' := Lib.hid hit'
          clear hit' hs3 hz h00 hle
          by_cases h65 : r = 65533
          · subst h65
            have h3 : n = 3 := by have := h33 rfl; simp only at hn; omega
            subst h3
            clear h33 hn hb0
            go_wp2_with fail
            refine HC.out.mono ?_; rintro e w1 ⟨rfl, hb1⟩
            have hk1 : w1.heap[w.heap.size]? = some (.stringIter s (p + 3)) := by
              rw [hb1.block _ (by have := hb'.size; have := (Array.getElem?_eq_some_iff.1 HK'.out).1; omega)]
              exact HK'.out
            have hit1 := iterPos_of hk1
            have HK1 := Lib.hid hk1
            have HI1 := Lib.hid hit1
            clear hk1 hit1
            go_wp2_with fail
            exact ⟨⟨p + 3, hs1, HK1.out, hb'.trans (hb1.mono hb'.size), HS.out⟩, by rw [HI.out, HI1.out]; omega⟩
          · have hr1 : ((r : Int) == 65533) = false := by rw [beq_eq_false_iff_ne]; omega
            have hr2 : ((r : Int) == 0) = false := by rw [beq_eq_false_iff_ne]; omega
            clear h65 h33 hn hb0 hr0
            go_wp2_with fail
            exact ⟨⟨p + n, hs1, HK'.out, hb', HS.out⟩, by rw [HI.out, HI'.out]; omega⟩
    · obtain rfl : p = s.size := by omega
      have hnx := fun ty => Lib.run_next_end_at (P := Tryz.prog) wr w.heap.size s s.size ty HK.out (by omega)
      go_wp2_with fail
      go_ret
      exact ⟨by rw [badV_end HE.out]; rfl, hb⟩

theorem badV_neg (s : ByteArray) : decide (badV s < 0) = Tx.good s.data.toList := by
  unfold badV
  split
  · rename_i h
    rw [h]
    rfl
  · rename_i h
    simp only [Bool.not_eq_true] at h
    rw [h]
    simp

/-- wire.Good. -/
theorem good_any (s : ByteArray) (w : World) (hs : s.size ≤ maxLen) (hT : Lib.Utf8Tabs 1 2 w) :
    Calls Tryz.prog 53 #[.string s] w fun e w' => e = .returned (.bool (Tx.good s.data.toList)) ∧ Below w.heap.size w w' := by
  have hb := bad_any s w hs hT
  have HB := Lib.hid hb
  have HN := Lib.hid (badV_neg s)
  clear hb
  go_enter Tryz.func53, Tryz.ntmps53
  go_wp2_with fail
  refine HB.out.mono ?_; rintro e w1 ⟨rfl, hb1⟩
  generalize badV s = v at *
  go_wp2_with fail
  go_ret
  exact ⟨by rw [← HN.out]; rfl, hb1⟩




theorem good_is (s : ByteArray) (b : Bool) (w : World) (hs : s.size ≤ maxLen) (hT : Lib.Utf8Tabs 1 2 w) (hb : Tx.good s.data.toList = b) :
    Calls Tryz.prog 53 #[.string s] w fun e w' => e = .returned (.bool b) ∧ Below w.heap.size w w' := by
  have := good_any s w hs hT
  rwa [hb] at this
end Go.Proofs.YtmcekhgmmocajaaGreatDoor
