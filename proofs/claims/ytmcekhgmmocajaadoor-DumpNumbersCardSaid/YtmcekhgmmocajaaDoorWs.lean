/- The walks of the writer's methods, on: Text, Open, Shut, Done, NewWriter. -/
import Derived.Test.YtmcekhgmmocajaaDoorWr
namespace Go.Proofs.YtmcekhgmmocajaaDoor
open Go.RowKit Me

theorem below_mods {w w' : World} (h : Below w.heap.size w w') : Mods [] w w' := Mods.below h []
theorem IsW.below {T : TypeId} {w w' : World} {a : Nat} {S : WSt} {vb vo : Value} (h : IsW T w a S vb vo) (hb : Below w.heap.size w w') : IsW T w' a S vb vo := h.mods (below_mods hb) (fun _ _ h => by cases h)

theorem newWriter_bad (l : Int) (w : World) (h : l < 0 ∨ 16777216 < l) :
    Calls Tryd.prog 16 #[.int .i64 l] w fun e w' => e = .returned (.tuple #[.pointer none, .int .i64 1]) ∧ w = w' := by
  rcases h with h | h
  · go_enter Tryd.func16, Tryd.ntmps16
    go_wp2_with fail
    go_ret2
    exact ⟨rfl, rfl⟩
  · have h' : ¬ l < 0 := by omega
    go_enter Tryd.func16, Tryd.ntmps16
    go_wp2_with fail
    go_ret2
    exact ⟨rfl, rfl⟩
def WSt.new (l : Nat) : WSt := ⟨l, [], [], 0⟩
theorem isW_new (T : TypeId) (l : Nat) (w : World) (hl : l ≤ 16777216) : IsW T (w.alloc (.cells #[.int .i64 (l : Int), .slice none 0 0, .slice none 0 0, .int .i64 0] T)) w.heap.size (WSt.new l) (.slice none 0 0) (.slice none 0 0) :=
  ⟨⟨hl, Nat.zero_le _, by simp [WSt.new], by simp [WSt.new], by simp [WSt.new]⟩, heap_alloc_new w _, World.ownsRow_nil _ _ _ _, World.ownsRow_nil _ _ _ _⟩
theorem newWriter_ok (l : Nat) (w : World) (hl : l ≤ 16777216) :
    Calls Tryd.prog 16 #[.int .i64 (l : Int)] w fun e w' => e = .returned (.tuple #[.pointer (some ⟨w.heap.size, 0, none⟩), .int .i64 0]) ∧ IsW 69 w' w.heap.size (WSt.new l) (.slice none 0 0) (.slice none 0 0) ∧ Mods [] w w' := by
  have HI := Lib.hid (isW_new 69 l w hl)
  go_enter Tryd.func16, Tryd.ntmps16
  go_wp2_with fail
  go_ret2
  exact ⟨rfl, HI.out, (Mods.refl _ _).alloc _⟩

/-- Done, of a writer that is wrong, or has a part open. -/
theorem done_wrong {a : Nat} {S : WSt} {vb vo : Value} {w : World} (h : IsW 69 w a S vb vo) (he : S.err ≠ 0) :
    Calls Tryd.prog 20 #[.pointer (some ⟨a, 0, none⟩)] w fun e w' => e = .returned (.tuple #[.slice none 0 0, .int .i64 (S.err : Int)]) ∧ Mods [] w w' := by
  obtain ⟨c0, c1, c2, c3, f1, f2, f3⟩ := cell4 h.cells
  have he' : ((S.err : Int) != 0) = true := by rw [bne_iff_ne]; omega
  clear he h c0 c1 c2 f1 f2 f3
  go_enter Tryd.func20, Tryd.ntmps20
  go_wp2_with fail
  go_quiet (fail)
  go_wp2_with fail
  go_ret2
  exact ⟨rfl, (Mods.refl _ _).drewN _⟩
theorem done_open {a : Nat} {S : WSt} {vb vo : Value} {w : World} (h : IsW 69 w a S vb vo) (he : S.err = 0) (ho : S.opens ≠ []) :
    Calls Tryd.prog 20 #[.pointer (some ⟨a, 0, none⟩)] w fun e w' => e = .returned (.tuple #[.slice none 0 0, .int .i64 1]) ∧ w = w' := by
  obtain ⟨c0, c1, c2, c3, f1, f2, f3⟩ := cell4 h.cells
  obtain ⟨A, c, rfl, hlc, hcm⟩ := ownsRow_slice h.o
  have hp := List.length_pos_iff.2 ho
  rw [he] at c3
  clear he h c0 c1 f1 f2 f3 ho
  go_enter Tryd.func20, Tryd.ntmps20
  go_wp2_with fail
  go_ret2
  exact ⟨rfl, rfl⟩
set_option maxRecDepth 100000 in
set_option maxHeartbeats 400000 in
theorem done_right {a : Nat} {S : WSt} {vb vo : Value} {w : World} (h : IsW 69 w a S vb vo) (he : S.err = 0) (ho : S.opens = []) :
    Calls Tryd.prog 20 #[.pointer (some ⟨a, 0, none⟩)] w fun e w' => ∃ v, e = .returned (.tuple #[v, .int .i64 0]) ∧ w'.ownsRow w.heap.size 5 1 v S.bytes.length (S.bytes.map byteV) ∧ Mods [] w w' := by
  obtain ⟨c0, c1, c2, c3, f1, f2, f3⟩ := cell4 h.cells
  obtain ⟨A, c, hvo, hlc, hcm⟩ := ownsRow_slice h.o
  have hl1 := h.wf.limit
  have hl2 := h.wf.bytes
  rw [ho] at hvo
  subst hvo
  rw [he] at c3
  simp only [List.length_nil] at c2
  have hsz : S.bytes.length ≤ 100000000 := by omega
  have HB := Lib.hid h.b
  clear he h c0 f1 f2 f3 ho hl1 hl2
  obtain ⟨i0, hi, hz0, hz1, hz2⟩ := info_parts info5
  go_enter Tryd.func20, Tryd.ntmps20
  go_wp2_with (at_builtin; go_must (refine wpList_app _ rfl _ _ 22 22 rfl w.heap.size 5 i0 (.int .u8 0) 1 1 Tryd.underlying22 hi hz0 hz1 hz2 rfl (.slice none 0 0) 0 [] rfl (World.ownsRow_nil _ _ _ _) _ S.bytes.length (S.bytes.map byteV) rfl ?c1 ?c2 ?c3 ?c4 ?_))
  case c1 => exact src_own Tryd.underlying22 HB.out (bytes_one _)
  case c2 => unfold maxLen; omega
  case c3 => omega
  case c4 => exact Nat.le_refl _
  intro v' w1 hown hgrow hat2
  have HO := Lib.hid hown
  have HM := Lib.hid ((Mods.refl [] w).grown hgrow (by simp [Value.ownBlock]))
  clear hown hgrow hat2
  go_wp2_with fail
  go_ret2
  exact ⟨v', rfl, by simpa using HO.out, HM.out⟩
/-- Done. -/
theorem done_any {a : Nat} {S : WSt} {vb vo : Value} {w : World} (h : IsW 69 w a S vb vo) :
    Calls Tryd.prog 20 #[.pointer (some ⟨a, 0, none⟩)] w fun e w' => ∃ v, e = .returned (.tuple #[v, .int .i64 (S.done.2 : Int)]) ∧ w'.ownsRow w.heap.size 5 1 v S.done.1.length (S.done.1.map byteV) ∧ Mods [] w w' := by
  unfold WSt.done
  by_cases he : S.err = 0
  · by_cases ho : S.opens = []
    · rw [if_neg (by omega), if_neg (by simpa using ho)]
      exact done_right h he ho
    · rw [if_neg (by omega), if_pos ho]
      refine (done_open h he ho).mono ?_
      rintro e w' ⟨h1, rfl⟩
      exact ⟨_, h1, World.ownsRow_nil _ _ _ _, Mods.refl _ _⟩
  · rw [if_pos he]
    refine (done_wrong h he).mono ?_
    rintro e w' ⟨h1, h2⟩
    exact ⟨_, h1, World.ownsRow_nil _ _ _ _, h2⟩
end Go.Proofs.YtmcekhgmmocajaaDoor
