/- The walks of the writer's methods: each is the plain writer's. | The walks of the writer's methods, on: Text, Open, Shut, Done, NewWriter. -/
import Derived.Test.YtlgoeipgmjcboaaGreatDoorPut
namespace Go.Proofs.YtlgoeipgmjcboaaGreatDoor
open Go.RowKit Me

theorem wrap_u64 (n : Nat) (h : n < 4294967296) : IntKind.u64.wrap (n : Int) = (n : Int) := by
  rw [IntKind.wrap_u64]
  omega

/-- A slice that reads as these cells, whoever owns it. -/
def Rd (w : World) (v : Value) (xs : List Value) : Prop :=
  ∃ A c, v = .slice A xs.length c ∧ xs.length ≤ c ∧ c ≤ maxLen ∧ ∀ j u, xs[j]? = some u → ∃ g off, A = some ⟨g, off, none⟩ ∧ w.cell? ⟨g, off + j, none⟩ = some u
theorem Rd.mods {w w' : World} {v : Value} {xs : List Value} {F : List Nat} (h : Rd w v xs) (hm : Mods F w w') (hn : ∀ k, v.ownBlock = some k → k ∉ F) : Rd w' v xs := by
  obtain ⟨A, c, rfl, h1, h2, h3⟩ := h
  refine ⟨A, c, rfl, h1, h2, fun j u hu => ?_⟩
  obtain ⟨g, off, rfl, hc⟩ := h3 j u hu
  refine ⟨g, off, rfl, ?_⟩
  have hb := World.block_lt_of_cell? w _ hc
  rw [hm.cell hb (hn _ rfl)]
  exact hc
theorem Rd.of_own {w : World} {base : Nat} {e : TypeId} {v : Value} {n : Nat} {xs : List Value} (h : w.ownsRow base e 1 v n xs) : Rd w v xs := by
  have hl := h.1
  rcases ownsRow_form h with ⟨rfl, rfl, rfl⟩ | ⟨g, cap, rfl, h1, h2, _⟩
  · exact ⟨none, 0, rfl, by simp, by unfold maxLen; omega, fun j u hu => by simp at hu⟩
  · obtain rfl : n = xs.length := by omega
    refine ⟨_, _, rfl, h1, h2, fun j u hu => ⟨g, 0, rfl, ?_⟩⟩
    have := h.cells rfl j u hu
    rwa [Addr.add_lit] at this
theorem Rd.src {P : Program} {tx e' : TypeId} (hk : P.underlying tx = some (.slice e')) {w : World} {v : Value} {xs : List Value} (h : Rd w v xs) (h1 : ∀ u ∈ xs, u.oneCell' = true) : Src P 1 tx v xs.length xs w := by
  obtain ⟨A, c, rfl, _, _, h3⟩ := h
  cases xs with
  | nil =>
    cases A with
    | none => exact Src.ofNil _ hk _
    | some ad => exact Src.ofSlice _ hk _ _ _ _ (by simp) (fun j u hu => by simp at hu) h1
  | cons x xs =>
    obtain ⟨g, off, rfl, _⟩ := h3 0 x rfl
    refine Src.ofSlice _ hk _ _ _ _ (by omega) (fun j u hu => ?_) h1
    obtain ⟨_, _, e, hc⟩ := h3 j u hu
    cases e
    rwa [Addr.add_lit]
theorem Rd.slice {w : World} {v : Value} {xs : List Value} (h : Rd w v xs) : ∃ A c, v = .slice A xs.length c := by
  obtain ⟨A, c, h, _⟩ := h
  exact ⟨A, c, h⟩

theorem u8_any {a : Nat} {S : WSt} {vb vo : Value} {w : World} (h : IsW 195 w a S vb vo) (n : Nat) (hn : n < 4294967296) :
    Calls Tryz.prog 78 #[.pointer (some ⟨a, 0, none⟩), .int .u8 n] w fun e w' => e = .returned (.tuple #[]) ∧ WPost 195 w a vb vo (S.put (le n 1)) w' := by
  have H := Lib.hid (put8_any h n (wrap_u64 n hn))
  clear h
  go_enter Tryz.func78, Tryz.ntmps78
  go_wp2_with fail
  refine H.out.mono ?_; rintro e w1 ⟨rfl, hw⟩
  have HW := Lib.hid hw
  clear hw
  go_wp2_with fail
  go_end0
  exact ⟨rfl, HW.out⟩
theorem u16_any {a : Nat} {S : WSt} {vb vo : Value} {w : World} (h : IsW 195 w a S vb vo) (n : Nat) (hn : n < 4294967296) :
    Calls Tryz.prog 79 #[.pointer (some ⟨a, 0, none⟩), .int .u16 n] w fun e w' => e = .returned (.tuple #[]) ∧ WPost 195 w a vb vo (S.put (le n 2)) w' := by
  have H := Lib.hid (put16_any h n (wrap_u64 n hn))
  clear h
  go_enter Tryz.func79, Tryz.ntmps79
  go_wp2_with fail
  refine H.out.mono ?_; rintro e w1 ⟨rfl, hw⟩
  have HW := Lib.hid hw
  clear hw
  go_wp2_with fail
  go_end0
  exact ⟨rfl, HW.out⟩
theorem u32_any {a : Nat} {S : WSt} {vb vo : Value} {w : World} (h : IsW 195 w a S vb vo) (n : Nat) (hn : n < 4294967296) :
    Calls Tryz.prog 77 #[.pointer (some ⟨a, 0, none⟩), .int .u32 n] w fun e w' => e = .returned (.tuple #[]) ∧ WPost 195 w a vb vo (S.put (le n 4)) w' := by
  have H := Lib.hid (put32_any h n (wrap_u64 n hn))
  clear h
  go_enter Tryz.func77, Tryz.ntmps77
  go_wp2_with fail
  refine H.out.mono ?_; rintro e w1 ⟨rfl, hw⟩
  have HW := Lib.hid hw
  clear hw
  go_wp2_with fail
  go_end0
  exact ⟨rfl, HW.out⟩
theorem u64_any {a : Nat} {S : WSt} {vb vo : Value} {w : World} (h : IsW 195 w a S vb vo) (n : Nat) (hn : IntKind.u64.wrap (n : Int) = (n : Int)) :
    Calls Tryz.prog 159 #[.pointer (some ⟨a, 0, none⟩), .int .u64 n] w fun e w' => e = .returned (.tuple #[]) ∧ WPost 195 w a vb vo (S.put (le n 8)) w' := by
  have H := Lib.hid (put64_any h n hn)
  clear h hn
  go_enter Tryz.func159, Tryz.ntmps159
  go_wp2_with fail
  refine H.out.mono ?_; rintro e w1 ⟨rfl, hw⟩
  have HW := Lib.hid hw
  clear hw
  go_wp2_with fail
  go_end0
  exact ⟨rfl, HW.out⟩


end Go.Proofs.YtlgoeipgmjcboaaGreatDoor
namespace Go.Proofs.YtlgoeipgmjcboaaGreatDoor
open Go.RowKit Me

theorem below_mods {w w' : World} (h : Below w.heap.size w w') : Mods [] w w' := Mods.below h []
theorem IsW.below {T : TypeId} {w w' : World} {a : Nat} {S : WSt} {vb vo : Value} (h : IsW T w a S vb vo) (hb : Below w.heap.size w w') : IsW T w' a S vb vo := h.mods (below_mods hb) (fun _ _ h => by cases h)

theorem newWriter_bad (l : Int) (w : World) (h : l < 0 ∨ 16777216 < l) :
    Calls Tryz.prog 76 #[.int .i64 l] w fun e w' => e = .returned (.tuple #[.pointer none, .int .i64 1]) ∧ w = w' := by
  rcases h with h | h
  · go_enter Tryz.func76, Tryz.ntmps76
    go_wp2_with fail
    go_ret2
    exact ⟨rfl, rfl⟩
  · have h' : ¬ l < 0 := by omega
    go_enter Tryz.func76, Tryz.ntmps76
    go_wp2_with fail
    go_ret2
    exact ⟨rfl, rfl⟩
def WSt.new (l : Nat) : WSt := ⟨l, [], [], 0⟩
theorem isW_new (T : TypeId) (l : Nat) (w : World) (hl : l ≤ 16777216) : IsW T (w.alloc (.cells #[.int .i64 (l : Int), .slice none 0 0, .slice none 0 0, .int .i64 0] T)) w.heap.size (WSt.new l) (.slice none 0 0) (.slice none 0 0) :=
  ⟨⟨hl, Nat.zero_le _, by simp [WSt.new], by simp [WSt.new], by simp [WSt.new]⟩, heap_alloc_new w _, World.ownsRow_nil _ _ _ _, World.ownsRow_nil _ _ _ _⟩
theorem newWriter_ok (l : Nat) (w : World) (hl : l ≤ 16777216) :
    Calls Tryz.prog 76 #[.int .i64 (l : Int)] w fun e w' => e = .returned (.tuple #[.pointer (some ⟨w.heap.size, 0, none⟩), .int .i64 0]) ∧ IsW 195 w' w.heap.size (WSt.new l) (.slice none 0 0) (.slice none 0 0) ∧ Mods [] w w' := by
  have HI := Lib.hid (isW_new 195 l w hl)
  go_enter Tryz.func76, Tryz.ntmps76
  go_wp2_with fail
  go_ret2
  exact ⟨rfl, HI.out, (Mods.refl _ _).alloc _⟩

/-- Done, of a writer that is wrong, or has a part open. -/
theorem done_wrong {a : Nat} {S : WSt} {vb vo : Value} {w : World} (h : IsW 195 w a S vb vo) (he : S.err ≠ 0) :
    Calls Tryz.prog 80 #[.pointer (some ⟨a, 0, none⟩)] w fun e w' => e = .returned (.tuple #[.slice none 0 0, .int .i64 (S.err : Int)]) ∧ Mods [] w w' := by
  obtain ⟨c0, c1, c2, c3, f1, f2, f3⟩ := cell4 h.cells
  have he' : ((S.err : Int) != 0) = true := by rw [bne_iff_ne]; omega
  clear he h c0 c1 c2 f1 f2 f3
  go_enter Tryz.func80, Tryz.ntmps80
  go_wp2_with fail
  go_quiet (fail)
  go_wp2_with fail
  go_ret2
  exact ⟨rfl, (Mods.refl _ _).drewN _⟩
theorem done_open {a : Nat} {S : WSt} {vb vo : Value} {w : World} (h : IsW 195 w a S vb vo) (he : S.err = 0) (ho : S.opens ≠ []) :
    Calls Tryz.prog 80 #[.pointer (some ⟨a, 0, none⟩)] w fun e w' => e = .returned (.tuple #[.slice none 0 0, .int .i64 1]) ∧ w = w' := by
  obtain ⟨c0, c1, c2, c3, f1, f2, f3⟩ := cell4 h.cells
  obtain ⟨A, c, rfl, hlc, hcm⟩ := ownsRow_slice h.o
  have hp := List.length_pos_iff.2 ho
  rw [he] at c3
  clear he h c0 c1 f1 f2 f3 ho
  go_enter Tryz.func80, Tryz.ntmps80
  go_wp2_with fail
  go_ret2
  exact ⟨rfl, rfl⟩
set_option maxRecDepth 100000 in
set_option maxHeartbeats 400000 in
theorem done_right {a : Nat} {S : WSt} {vb vo : Value} {w : World} (h : IsW 195 w a S vb vo) (he : S.err = 0) (ho : S.opens = []) :
    Calls Tryz.prog 80 #[.pointer (some ⟨a, 0, none⟩)] w fun e w' => ∃ v, e = .returned (.tuple #[v, .int .i64 0]) ∧ w'.ownsRow w.heap.size 5 1 v S.bytes.length (S.bytes.map byteV) ∧ Mods [] w w' := by
  obtain ⟨c0, c1, c2, c3, f1, f2, f3⟩ := cell4 h.cells
  obtain ⟨A, c, hvo, hlc, hcm⟩ := ownsRow_slice h.o
  have hl1 := h.wf.limit
  have hl2 := h.wf.bytes
  rw [ho] at hvo
  subst hvo
  rw [he] at c3
  simp only [List.length_nil] at c2
  have hsz : S.bytes.length ≤ 100000000 := by omega
  have HB := Lib.hid h.b
  clear he h c0 f1 f2 f3 ho hl1 hl2
  obtain ⟨i0, hi, hz0, hz1, hz2⟩ := info_parts info5
  go_enter Tryz.func80, Tryz.ntmps80
  go_wp2_with (at_builtin; go_must (refine wpList_app _ rfl _ _ 43 43 rfl w.heap.size 5 i0 (.int .u8 0) 1 1 Tryz.underlying43 hi hz0 hz1 hz2 rfl (.slice none 0 0) 0 [] rfl (World.ownsRow_nil _ _ _ _) _ S.bytes.length (S.bytes.map byteV) rfl ?c1 ?c2 ?c3 ?c4 ?_))
  case c1 => exact src_own Tryz.underlying43 HB.out (bytes_one _)
  case c2 => unfold maxLen; omega
  case c3 => omega
  case c4 => exact Nat.le_refl _
  intro v' w1 hown hgrow hat2
  have HO := Lib.hid hown
  have HM := Lib.hid ((Mods.refl [] w).grown hgrow (by simp [Value.ownBlock]))
  clear hown hgrow hat2
  go_wp2_with fail
  go_ret2
  exact ⟨v', rfl, by simpa using HO.out, HM.out⟩
/-- Done. -/
theorem done_any {a : Nat} {S : WSt} {vb vo : Value} {w : World} (h : IsW 195 w a S vb vo) :
    Calls Tryz.prog 80 #[.pointer (some ⟨a, 0, none⟩)] w fun e w' => ∃ v, e = .returned (.tuple #[v, .int .i64 (S.done.2 : Int)]) ∧ w'.ownsRow w.heap.size 5 1 v S.done.1.length (S.done.1.map byteV) ∧ Mods [] w w' := by
  unfold WSt.done
  by_cases he : S.err = 0
  · by_cases ho : S.opens = []
    · rw [if_neg (by omega), if_neg (by simpa using ho)]
      exact done_right h he ho
    · rw [if_neg (by omega), if_pos ho]
      refine (done_open h he ho).mono ?_
      rintro e w' ⟨h1, rfl⟩
      exact ⟨_, h1, World.ownsRow_nil _ _ _ _, Mods.refl _ _⟩
  · rw [if_pos he]
    refine (done_wrong h he).mono ?_
    rintro e w' ⟨h1, h2⟩
    exact ⟨_, h1, World.ownsRow_nil _ _ _ _, h2⟩
end Go.Proofs.YtlgoeipgmjcboaaGreatDoor
