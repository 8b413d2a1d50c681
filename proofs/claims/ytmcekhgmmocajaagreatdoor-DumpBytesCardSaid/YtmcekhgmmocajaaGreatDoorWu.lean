/- The walks of the writer's methods: each is the plain writer's. | The walks of the writer's methods, on: Text, Open, Shut, Done, NewWriter. | The walks of the writer's methods, on: Text, Open, Shut. | The walk of the writer's Shut. -/
import Derived.Test.YtmcekhgmmocajaaGreatDoorPut
namespace Go.Proofs.YtmcekhgmmocajaaGreatDoor
open Go.RowKit Me

theorem wrap_u64 (n : Nat) (h : n < 4294967296) : IntKind.u64.wrap (n : Int) = (n : Int) := by
  rw [IntKind.wrap_u64]
  omega

/-- A slice that reads as these cells, whoever owns it. -/
def Rd (w : World) (v : Value) (xs : List Value) : Prop :=
  ∃ A c, v = .slice A xs.length c ∧ xs.length ≤ c ∧ c ≤ maxLen ∧ ∀ j u, xs[j]? = some u → ∃ g off, A = some ⟨g, off, none⟩ ∧ w.cell? ⟨g, off + j, none⟩ = some u
theorem Rd.mods {w w' : World} {v : Value} {xs : List Value} {F : List Nat} (h : Rd w v xs) (hm : Mods F w w') (hn : ∀ k, v.ownBlock = some k → k ∉ F) : Rd w' v xs := by
  obtain ⟨A, c, rfl, h1, h2, h3⟩ := h
  refine ⟨A, c, rfl, h1, h2, fun j u hu => ?_⟩
  obtain ⟨g, off, rfl, hc⟩ := h3 j u hu
  refine ⟨g, off, rfl, ?_⟩
  have hb := World.block_lt_of_cell? w _ hc
  rw [hm.cell hb (hn _ rfl)]
  exact hc
theorem Rd.of_own {w : World} {base : Nat} {e : TypeId} {v : Value} {n : Nat} {xs : List Value} (h : w.ownsRow base e 1 v n xs) : Rd w v xs := by
  have hl := h.1
  rcases ownsRow_form h with ⟨rfl, rfl, rfl⟩ | ⟨g, cap, rfl, h1, h2, _⟩
  · exact ⟨none, 0, rfl, by simp, by unfold maxLen; omega, fun j u hu => by simp at hu⟩
  · obtain rfl : n = xs.length := by omega
    refine ⟨_, _, rfl, h1, h2, fun j u hu => ⟨g, 0, rfl, ?_⟩⟩
    have := h.cells rfl j u hu
    rwa [Addr.add_lit] at this
theorem Rd.src {P : Program} {tx e' : TypeId} (hk : P.underlying tx = some (.slice e')) {w : World} {v : Value} {xs : List Value} (h : Rd w v xs) (h1 : ∀ u ∈ xs, u.oneCell' = true) : Src P 1 tx v xs.length xs w := by
  obtain ⟨A, c, rfl, _, _, h3⟩ := h
  cases xs with
  | nil =>
    cases A with
    | none => exact Src.ofNil _ hk _
    | some ad => exact Src.ofSlice _ hk _ _ _ _ (by simp) (fun j u hu => by simp at hu) h1
  | cons x xs =>
    obtain ⟨g, off, rfl, _⟩ := h3 0 x rfl
    refine Src.ofSlice _ hk _ _ _ _ (by omega) (fun j u hu => ?_) h1
    obtain ⟨_, _, e, hc⟩ := h3 j u hu
    cases e
    rwa [Addr.add_lit]
theorem Rd.slice {w : World} {v : Value} {xs : List Value} (h : Rd w v xs) : ∃ A c, v = .slice A xs.length c := by
  obtain ⟨A, c, h, _⟩ := h
  exact ⟨A, c, h⟩

theorem u32_any {a : Nat} {S : WSt} {vb vo : Value} {w : World} (h : IsW 88 w a S vb vo) (n : Nat) (hn : n < 4294967296) :
    Calls Tryz.prog 26 #[.pointer (some ⟨a, 0, none⟩), .int .u32 n] w fun e w' => e = .returned (.tuple #[]) ∧ WPost 88 w a vb vo (S.put (le n 4)) w' := by
  have H := Lib.hid (put32_any h n (wrap_u64 n hn))
  clear h
  go_enter Tryz.func26, Tryz.ntmps26
  go_wp2_with fail
  refine H.out.mono ?_; rintro e w1 ⟨rfl, hw⟩
  have HW := Lib.hid hw
  clear hw
  go_wp2_with fail
  go_end0
  exact ⟨rfl, HW.out⟩
theorem u64_any {a : Nat} {S : WSt} {vb vo : Value} {w : World} (h : IsW 88 w a S vb vo) (n : Nat) (hn : IntKind.u64.wrap (n : Int) = (n : Int)) :
    Calls Tryz.prog 29 #[.pointer (some ⟨a, 0, none⟩), .int .u64 n] w fun e w' => e = .returned (.tuple #[]) ∧ WPost 88 w a vb vo (S.put (le n 8)) w' := by
  have H := Lib.hid (put64_any h n hn)
  clear h hn
  go_enter Tryz.func29, Tryz.ntmps29
  go_wp2_with fail
  refine H.out.mono ?_; rintro e w1 ⟨rfl, hw⟩
  have HW := Lib.hid hw
  clear hw
  go_wp2_with fail
  go_end0
  exact ⟨rfl, HW.out⟩




end Go.Proofs.YtmcekhgmmocajaaGreatDoor
namespace Go.Proofs.YtmcekhgmmocajaaGreatDoor
open Go.RowKit Me

theorem below_mods {w w' : World} (h : Below w.heap.size w w') : Mods [] w w' := Mods.below h []
theorem IsW.below {T : TypeId} {w w' : World} {a : Nat} {S : WSt} {vb vo : Value} (h : IsW T w a S vb vo) (hb : Below w.heap.size w w') : IsW T w' a S vb vo := h.mods (below_mods hb) (fun _ _ h => by cases h)

theorem newWriter_bad (l : Int) (w : World) (h : l < 0 ∨ 16777216 < l) :
    Calls Tryz.prog 24 #[.int .i64 l] w fun e w' => e = .returned (.tuple #[.pointer none, .int .i64 1]) ∧ w = w' := by
  rcases h with h | h
  · go_enter Tryz.func24, Tryz.ntmps24
    go_wp2_with fail
    go_ret2
    exact ⟨rfl, rfl⟩
  · have h' : ¬ l < 0 := by omega
    go_enter Tryz.func24, Tryz.ntmps24
    go_wp2_with fail
    go_ret2
    exact ⟨rfl, rfl⟩
def WSt.new (l : Nat) : WSt := ⟨l, [], [], 0⟩
theorem isW_new (T : TypeId) (l : Nat) (w : World) (hl : l ≤ 16777216) : IsW T (w.alloc (.cells #[.int .i64 (l : Int), .slice none 0 0, .slice none 0 0, .int .i64 0] T)) w.heap.size (WSt.new l) (.slice none 0 0) (.slice none 0 0) :=
  ⟨⟨hl, Nat.zero_le _, by simp [WSt.new], by simp [WSt.new], by simp [WSt.new]⟩, heap_alloc_new w _, World.ownsRow_nil _ _ _ _, World.ownsRow_nil _ _ _ _⟩
theorem newWriter_ok (l : Nat) (w : World) (hl : l ≤ 16777216) :
    Calls Tryz.prog 24 #[.int .i64 (l : Int)] w fun e w' => e = .returned (.tuple #[.pointer (some ⟨w.heap.size, 0, none⟩), .int .i64 0]) ∧ IsW 88 w' w.heap.size (WSt.new l) (.slice none 0 0) (.slice none 0 0) ∧ Mods [] w w' := by
  have HI := Lib.hid (isW_new 88 l w hl)
  go_enter Tryz.func24, Tryz.ntmps24
  go_wp2_with fail
  go_ret2
  exact ⟨rfl, HI.out, (Mods.refl _ _).alloc _⟩

/-- Done, of a writer that is wrong, or has a part open. -/
theorem done_wrong {a : Nat} {S : WSt} {vb vo : Value} {w : World} (h : IsW 88 w a S vb vo) (he : S.err ≠ 0) :
    Calls Tryz.prog 28 #[.pointer (some ⟨a, 0, none⟩)] w fun e w' => e = .returned (.tuple #[.slice none 0 0, .int .i64 (S.err : Int)]) ∧ Mods [] w w' := by
  obtain ⟨c0, c1, c2, c3, f1, f2, f3⟩ := cell4 h.cells
  have he' : ((S.err : Int) != 0) = true := by rw [bne_iff_ne]; omega
  clear he h c0 c1 c2 f1 f2 f3
  go_enter Tryz.func28, Tryz.ntmps28
  go_wp2_with fail
  go_quiet (fail)
  go_wp2_with fail
  go_ret2
  exact ⟨rfl, (Mods.refl _ _).drewN _⟩
theorem done_open {a : Nat} {S : WSt} {vb vo : Value} {w : World} (h : IsW 88 w a S vb vo) (he : S.err = 0) (ho : S.opens ≠ []) :
    Calls Tryz.prog 28 #[.pointer (some ⟨a, 0, none⟩)] w fun e w' => e = .returned (.tuple #[.slice none 0 0, .int .i64 1]) ∧ w = w' := by
  obtain ⟨c0, c1, c2, c3, f1, f2, f3⟩ := cell4 h.cells
  obtain ⟨A, c, rfl, hlc, hcm⟩ := ownsRow_slice h.o
  have hp := List.length_pos_iff.2 ho
  rw [he] at c3
  clear he h c0 c1 f1 f2 f3 ho
  go_enter Tryz.func28, Tryz.ntmps28
  go_wp2_with fail
  go_ret2
  exact ⟨rfl, rfl⟩
set_option maxRecDepth 100000 in
set_option maxHeartbeats 400000 in
theorem done_right {a : Nat} {S : WSt} {vb vo : Value} {w : World} (h : IsW 88 w a S vb vo) (he : S.err = 0) (ho : S.opens = []) :
    Calls Tryz.prog 28 #[.pointer (some ⟨a, 0, none⟩)] w fun e w' => ∃ v, e = .returned (.tuple #[v, .int .i64 0]) ∧ w'.ownsRow w.heap.size 5 1 v S.bytes.length (S.bytes.map byteV) ∧ Mods [] w w' := by
  obtain ⟨c0, c1, c2, c3, f1, f2, f3⟩ := cell4 h.cells
  obtain ⟨A, c, hvo, hlc, hcm⟩ := ownsRow_slice h.o
  have hl1 := h.wf.limit
  have hl2 := h.wf.bytes
  rw [ho] at hvo
  subst hvo
  rw [he] at c3
  simp only [List.length_nil] at c2
  have hsz : S.bytes.length ≤ 100000000 := by omega
  have HB := Lib.hid h.b
  clear he h c0 f1 f2 f3 ho hl1 hl2
  obtain ⟨i0, hi, hz0, hz1, hz2⟩ := info_parts info5
  go_enter Tryz.func28, Tryz.ntmps28
  go_wp2_with (at_builtin; go_must (refine wpList_app _ rfl _ _ 22 22 rfl w.heap.size 5 i0 (.int .u8 0) 1 1 Tryz.underlying22 hi hz0 hz1 hz2 rfl (.slice none 0 0) 0 [] rfl (World.ownsRow_nil _ _ _ _) _ S.bytes.length (S.bytes.map byteV) rfl ?c1 ?c2 ?c3 ?c4 ?_))
  case c1 => exact src_own Tryz.underlying22 HB.out (bytes_one _)
  case c2 => unfold maxLen; omega
  case c3 => omega
  case c4 => exact Nat.le_refl _
  intro v' w1 hown hgrow hat2
  have HO := Lib.hid hown
  have HM := Lib.hid ((Mods.refl [] w).grown hgrow (by simp [Value.ownBlock]))
  clear hown hgrow hat2
  go_wp2_with fail
  go_ret2
  exact ⟨v', rfl, by simpa using HO.out, HM.out⟩
/-- Done. -/
theorem done_any {a : Nat} {S : WSt} {vb vo : Value} {w : World} (h : IsW 88 w a S vb vo) :
    Calls Tryz.prog 28 #[.pointer (some ⟨a, 0, none⟩)] w fun e w' => ∃ v, e = .returned (.tuple #[v, .int .i64 (S.done.2 : Int)]) ∧ w'.ownsRow w.heap.size 5 1 v S.done.1.length (S.done.1.map byteV) ∧ Mods [] w w' := by
  unfold WSt.done
  by_cases he : S.err = 0
  · by_cases ho : S.opens = []
    · rw [if_neg (by omega), if_neg (by simpa using ho)]
      exact done_right h he ho
    · rw [if_neg (by omega), if_pos ho]
      refine (done_open h he ho).mono ?_
      rintro e w' ⟨h1, rfl⟩
      exact ⟨_, h1, World.ownsRow_nil _ _ _ _, Mods.refl _ _⟩
  · rw [if_pos he]
    refine (done_wrong h he).mono ?_
    rintro e w' ⟨h1, h2⟩
    exact ⟨_, h1, World.ownsRow_nil _ _ _ _, h2⟩
end Go.Proofs.YtmcekhgmmocajaaGreatDoor
namespace Go.Proofs.YtmcekhgmmocajaaGreatDoor
open Go.RowKit Me

theorem IsW.alloc {T : TypeId} {w : World} {a : Nat} {S : WSt} {vb vo : Value} (h : IsW T w a S vb vo) (o : Obj) : IsW T (w.alloc o) a S vb vo := h.mods ((Mods.refl [] _).alloc o) (fun _ _ h => by cases h)
/-- The cells of a writer, in a world of which it is known what an append turned. -/
theorem behind_grow {T : TypeId} {w w1 : World} {a : Nat} {S : WSt} {vb vo : Value} {row : Option Nat} (h : IsW T w a S vb vo) (hg : w.grownBy w1 row) (hr : row ≠ some a) :
    w1.heap[a]? = some (.cells #[.int .i64 (S.limit : Int), vb, vo, .int .i64 (S.err : Int)] T (0, 0)) ∧ w1.cell? ⟨a, 1, none⟩ = some vb ∧ w1.frozen? ⟨a, 1, none⟩ = false ∧ w1.cell? ⟨a, 2, none⟩ = some vo ∧ w1.frozen? ⟨a, 2, none⟩ = false := by
  have ha : w1.heap[a]? = _ := (hg.block a (Array.getElem?_eq_some_iff.1 h.cells).1 (fun e => hr e.symm)).trans h.cells
  obtain ⟨_, c1, c2, _, f1, f2, _⟩ := cell4 ha
  exact ⟨ha, c1, f1, c2, f2⟩

/-- A place has been put behind those of the parts that are open. -/
theorem IsW.push {T : TypeId} {W w1 : World} {a : Nat} {S : WSt} {vb vo v' : Value} {q : Nat} (h : IsW T W a S vb vo) (hT : T ≠ 5 ∧ T ≠ 3) (hg : W.grownBy w1 vo.ownBlock)
    (hown : w1.ownsRow 0 3 1 v' (S.opens.length + 1) (S.opens.map intV ++ [intV q])) (hat : v'.ownBlock = vo.ownBlock ∨ v'.ownBlock = some W.heap.size) (hq : q + 2 ≤ S.bytes.length) (hm : S.opens.length + 1 ≤ S.bytes.length) :
    IsW T (w1.setCell ⟨a, 2, none⟩ v') a { S with opens := S.opens ++ [q] } vb v' ∧ Mods (foot a vb vo) W (w1.setCell ⟨a, 2, none⟩ v') := by
  have hr := wrow h hT
  have ha := (behind_grow h hg hr.2.1).1
  have hva : v'.ownBlock ≠ some a := by
    rcases hat with e | e
    · rw [e]; exact hr.2.1
    · rw [e]
      have := (Array.getElem?_eq_some_iff.1 h.cells).1
      intro e'
      have := Option.some.inj e'
      omega
  refine ⟨⟨⟨h.wf.limit, h.wf.bytes, fun x hx => ?_, by simpa using hm, h.wf.err⟩, by rw [heap_setCell_same _ _ _ _ _ _ ha]; rfl, ?_, ?_⟩, ?_⟩
  · rcases List.mem_append.1 hx with hx | hx
    · exact h.wf.opens x hx
    · simp at hx
      subst hx
      exact hq
  · refine ownsRow_set (h.b.kept hg ?_) hr.1 v'
    by_cases e : vb.ownBlock = none
    · exact Or.inl e
    · refine Or.inr fun e2 => ?_
      obtain ⟨k, hk⟩ := Option.ne_none_iff_exists'.1 e
      exact hr.2.2 k hk (by rw [← e2]; exact hk)
  · have hx := ownsRow_set hown (a := ⟨a, 2, none⟩) hva v'
    simpa using hx
  · exact ((Mods.refl _ _).grown hg (fun b hb => Or.inl (mem_foot.2 (Or.inr (Or.inr hb))))).setCell (p := ⟨a, 2, none⟩) (Or.inl (mem_foot.2 (Or.inl rfl))) _

theorem src_at {P : Program} {tx e' : TypeId} (hk : P.underlying tx = some (.slice e')) (w : World) (xs : List Value) (t : TypeId) (k n : Nat) (hk2 : w.heap.size = k) (hn : xs.length = n) (h1 : ∀ u ∈ xs, u.oneCell' = true) : Src P 1 tx (.slice (some ⟨k, 0, none⟩) n n) n xs (w.alloc (.cells xs.toArray t)) := by
  subst hk2
  exact src_lit hk w xs t n hn h1
theorem size_set (w : World) (a : Addr) (v : Value) : (w.setCell a v).heap.size = w.heap.size := by simp [World.setCell]


theorem le_cells (n : Nat) (h : n ≤ 65535) : [Value.int .u8 ((n : Int) % 256), .int .u8 ((n : Int) / 256)] = (le n 2).map byteV := by
  simp only [le, List.map_cons, List.map_nil, byteV_mod]
  have : ((n / 256 : Nat) : Int) % 256 = (n : Int) / 256 := by omega
  rw [this]
theorem foot_step {a : Nat} {vb vo vb' : Value} {w : World} (hat : vb'.ownBlock = vb.ownBlock ∨ ∃ k, vb'.ownBlock = some k ∧ w.heap.size ≤ k) : ∀ b ∈ foot a vb' vo, b ∈ foot a vb vo ∨ w.heap.size ≤ b := by
  intro b hb
  rcases mem_foot.1 hb with rfl | hb | hb
  · exact Or.inl (mem_foot.2 (Or.inl rfl))
  · rcases hat with e | ⟨j, e, hj⟩
    · exact Or.inl (mem_foot.2 (Or.inr (Or.inl (by rw [← e]; exact hb))))
    · rw [e] at hb
      obtain rfl := Option.some.inj hb
      exact Or.inr hj
  · exact Or.inl (mem_foot.2 (Or.inr (Or.inr hb)))
theorem at_step {vb vb' v2 : Value} {w w1 : World} (hat : vb'.ownBlock = vb.ownBlock ∨ ∃ k, vb'.ownBlock = some k ∧ w.heap.size ≤ k) (h2 : v2.ownBlock = vb'.ownBlock ∨ v2.ownBlock = some w1.heap.size) (hs : w.heap.size ≤ w1.heap.size) :
    v2.ownBlock = vb.ownBlock ∨ ∃ k, v2.ownBlock = some k ∧ w.heap.size ≤ k := by
  rcases h2 with e | e
  · rw [e]; exact hat
  · exact Or.inr ⟨_, e, hs⟩

set_option maxRecDepth 100000 in
set_option maxHeartbeats 1000000 in
theorem text_fits {a : Nat} {S : WSt} {vb vo : Value} {w : World} (h : IsW 88 w a S vb vo) (s : ByteArray) (hT : Lib.Utf8Tabs 1 2 w) (he : S.err = 0) (h6 : s.size ≤ 65535) (hg : Tx.good s.data.toList = true) (hf : S.bytes.length + (2 + s.size) ≤ S.limit) :
    Calls Tryz.prog 27 #[.pointer (some ⟨a, 0, none⟩), .string s] w fun e w' => e = .returned (.tuple #[]) ∧ WPost 88 w a vb vo (S.add (le s.size 2 ++ s.data.toList)) w' := by
  have hl1 := h.wf.limit
  have hsz : S.bytes.length ≤ 100000000 := by omega
  obtain ⟨c0, c1, c2, c3, f1, f2, f3⟩ := cell4 h.cells
  rw [he] at c3
  have H := Lib.hid h
  have HE := Lib.hid he
  have HF := Lib.hid hf
  have HG := Lib.hid (good_is s true w (by unfold maxLen; omega) hT hg)
  clear h he hf hl1 hg hT c0 c1 c2 f1 f2 f3
  obtain ⟨i0, hi, hz0, hz1, hz2⟩ := info_parts info5
  go_enter Tryz.func27, Tryz.ntmps27
  go_wp2_with fail
  refine HG.out.mono ?_; rintro e w0 ⟨rfl, hb0⟩
  have H0 := Lib.hid (H.out.below hb0)
  have HB0 := Lib.hid hb0
  clear hb0 c3
  go_wp2_with fail
  refine (room_fits H0.out (2 + (s.size : Int)) (by omega) (by omega) HE.out (by have := HF.out; omega)).mono ?_; rintro e w1 ⟨rfl, k, rfl⟩
  obtain ⟨c0, c1, c2, c3, f1, f2, f3⟩ := cell4 (H0.out.drewN k).cells
  obtain ⟨A, c, hvb, hlc, hcm⟩ := ownsRow_slice H0.out.b
  subst hvb
  clear c0 c2 c3 f2 f3
  go_wp2_with (at_builtin; go_must (refine wpList_app _ rfl _ _ 22 22 rfl 0 5 i0 (.int .u8 0) 1 1 Tryz.underlying22 hi hz0 hz1 hz2 rfl _ _ _ rfl ((H0.out.drewN k).b.alloc _) _ 2 [.int .u8 ((s.size : Int) % 256), .int .u8 ((s.size : Int) / 256)] rfl ?c1 ?c2 ?c3 ?c4 ?_))
  case c1 => exact src_at Tryz.underlying22 (w0.drewN k) [.int .u8 ((s.size : Int) % 256), .int .u8 ((s.size : Int) / 256)] 5 _ 2 rfl rfl (by intro u hu; simp at hu; rcases hu with rfl | rfl <;> rfl)
  case c2 => unfold maxLen; omega
  case c3 => omega
  case c4 => exact Nat.zero_le _
  intro v' w1 hown hgrow hat2
  obtain ⟨_, d1, g1, _, _⟩ := behind_grow ((H0.out.drewN k).alloc _) hgrow (wrow (H0.out.alloc (.cells #[] 0)) (by decide)).1
  obtain ⟨A', c', rfl⟩ := own_ctor hown
  have hx := (((H0.out.drewN k).alloc _).app (by decide) hgrow hown (by simpa using hat2) (bs := le s.size 2) (le_cells _ h6) (by have := HF.out; rw [le_length]; omega))
  have HW1 := Lib.hid hx.1
  have HM1 := Lib.hid (((below_mods HB0.out).trans (((Mods.refl [] w0).drewN k).alloc _) (by simp)).mono (G := foot a (.slice A S.bytes.length c) vo) (by simp) |>.trans hx.2 (fun b hb => Or.inl hb))
  have HA1 : Hid ((Value.slice A' (S.bytes.length + 2) c').ownBlock = (Value.slice A S.bytes.length c).ownBlock ∨ ∃ k, (Value.slice A' (S.bytes.length + 2) c').ownBlock = some k ∧ w.heap.size ≤ k) := Lib.hid (by
    rcases hat2 with e | e
    · exact Or.inl e
    · exact Or.inr ⟨_, e, by have := HB0.out.size; simp; omega⟩)
  obtain ⟨e0, e1, e2, e3, k1, k2, k3⟩ := cell4 hx.1.cells
  have hlen2 : (S.add (le s.size 2)).bytes.length = S.bytes.length + 2 := by simp [WSt.add, le_length]
  have HL2 := Lib.hid hlen2
  clear hx hown hgrow hat2 c1 f1 e0 e2 e3 k2 k3 hlen2
  go_wp2_with (at_builtin; go_must (refine wpList_app _ rfl _ _ 22 9 rfl 0 5 i0 (.int .u8 0) 1 1 Tryz.underlying22 hi hz0 hz1 hz2 rfl _ _ _ rfl HW1.out.b _ s.size (byteCells s) rfl ?d1 ?d2 ?d3 ?d4 ?_))
  case d1 => exact Src.ofString _ Tryz.underlying9 s
  case d2 => have := HL2.out; unfold maxLen; omega
  case d3 => have := HL2.out; omega
  case d4 => exact Nat.zero_le _
  intro v2 w2 hown hgrow hat2
  obtain ⟨_, d2, g2, _, _⟩ := behind_grow HW1.out hgrow (wrow HW1.out (by decide)).1
  obtain ⟨A3, c3', rfl⟩ := own_ctor hown
  have hx := (HW1.out.app (by decide) hgrow hown (by simpa [size_set] using hat2) (bs := s.data.toList) rfl (by have h1 := HF.out; have h2 := HL2.out; rw [size_list]; simp only [WSt.add] at h2 ⊢; omega))
  rw [add_add] at hx
  have HW2 := Lib.hid hx.1
  have HM2 := Lib.hid (HM1.out.trans hx.2 (foot_step HA1.out))
  have HA2 := Lib.hid (at_step HA1.out hat2 (by have := HM1.out.size; rwa [size_set] at this))
  clear hx hown hgrow hat2 e1 k1
  go_wp2_with fail
  go_end0
  exact ⟨rfl, WPost.of_b HW2.out HM2.out HA2.out⟩

set_option maxHeartbeats 400000 in
/-- Text. -/
theorem text_any {a : Nat} {S : WSt} {vb vo : Value} {w : World} (h : IsW 88 w a S vb vo) (s : ByteArray) (hs : s.size ≤ maxLen) (hT : Lib.Utf8Tabs 1 2 w) :
    Calls Tryz.prog 27 #[.pointer (some ⟨a, 0, none⟩), .string s] w fun e w' => e = .returned (.tuple #[]) ∧ WPost 88 w a vb vo (S.text s.data.toList) w' := by
  have hsm := hs
  unfold maxLen at hsm
  unfold WSt.text
  obtain ⟨c0, c1, c2, c3, f1, f2, f3⟩ := cell4 h.cells
  by_cases he : S.err = 0
  · rw [if_neg (by omega)]
    rw [he] at c3
    by_cases h6 : 65535 < s.size
    · rw [if_pos (by rw [size_list]; exact h6)]
      have HW := Lib.hid (h.wrong (by decide) 13 (by omega))
      have HM := Lib.hid ((Mods.refl [a] w).setCell (p := ⟨a, 3, none⟩) (Or.inl (by simp)) (.int .i64 ((13 : Nat) : Int)))
      clear h he hT hs c0 c1 c2 f1 f2
      go_enter Tryz.func27, Tryz.ntmps27
      go_wp2_with fail
      refine bodyPost_ret (results_none rfl _ _ _) rfl ?_
      exact ⟨rfl, WPost.same HW.out HM.out (by simp [foot])⟩
    · rw [if_neg (by rw [size_list]; exact h6)]
      by_cases hg : Tx.good s.data.toList = false
      · rw [if_pos hg]
        have HG := Lib.hid (good_is s false w hs hT hg)
        have H := Lib.hid h
        clear h he hT hs c0 c1 c2 f1 f2 hg f3
        go_enter Tryz.func27, Tryz.ntmps27
        go_wp2_with fail
        refine HG.out.mono ?_; rintro e w0 ⟨rfl, hb0⟩
        have HB0 := Lib.hid (below_mods hb0)
        have h1 := H.out.below hb0
        obtain ⟨_, _, _, d3, _, _, f3⟩ := cell4 h1.cells
        have HW := Lib.hid (h1.wrong (by decide) 12 (by omega))
        clear h1 hb0 c3
        go_wp2_with fail
        refine bodyPost_ret (results_none rfl _ _ _) rfl ?_
        exact ⟨rfl, WPost.same HW.out ((HB0.out.mono (G := [a]) (by simp)).setCell (p := ⟨a, 3, none⟩) (Or.inl (by simp)) _) (by simp [foot])⟩
      · rw [if_neg hg]
        have hg' : Tx.good s.data.toList = true := by simpa using hg
        have hln : (le s.data.toList.length 2 ++ s.data.toList).length = 2 + s.size := by rw [List.length_append, le_length, size_list]
        by_cases hf : S.limit < S.bytes.length + (2 + s.size)
        · rw [WSt.put_full _ he (by rw [hln]; exact hf)]
          have HG := Lib.hid (good_is s true w hs hT hg')
          have H := Lib.hid h
          have HE := Lib.hid he
          have HF := Lib.hid hf
          clear h he hT hs c0 c1 c2 f1 f2 hg hg' f3 hln hf
          go_enter Tryz.func27, Tryz.ntmps27
          go_wp2_with fail
          refine HG.out.mono ?_; rintro e w0 ⟨rfl, hb0⟩
          have HB0 := Lib.hid (below_mods hb0)
          have H1 := Lib.hid (H.out.below hb0)
          clear hb0 c3
          go_wp2_with fail
          refine (room_full H1.out (by decide) (2 + (s.size : Int)) (by omega) (by omega) HE.out (by have := HF.out; omega)).mono ?_; rintro e w1 ⟨rfl, hw, hm⟩
          have HW := Lib.hid hw
          have HM := Lib.hid (HB0.out.mono (G := [a]) (by simp) |>.trans hm (fun b hb => Or.inl hb))
          clear hw hm
          go_wp2_with fail
          go_end0
          exact ⟨rfl, WPost.same HW.out HM.out (by simp [foot])⟩
        · rw [WSt.put_fits _ he (by rw [hln]; exact hf), size_list]
          exact text_fits h s hT he (by omega) hg' (by omega)
  · rw [if_pos he]
    have he' : ((S.err : Int) != 0) = true := by rw [bne_iff_ne]; omega
    have H := Lib.hid h
    clear h he hT hs c0 c1 c2 f1 f2 f3
    go_enter Tryz.func27, Tryz.ntmps27
    go_wp2_with fail
    refine bodyPost_ret (results_none rfl _ _ _) rfl ?_
    exact ⟨rfl, WPost.same H.out (Mods.refl [] _) (by simp)⟩
end Go.Proofs.YtmcekhgmmocajaaGreatDoor
namespace Go.Proofs.YtmcekhgmmocajaaGreatDoor
open Go.RowKit Me

theorem last_cell {w : World} {g c n q : Nat} {xs : List Nat} (h : w.ownsRow 0 3 1 (.slice (some ⟨g, 0, none⟩) n c) n ((xs ++ [q]).map intV)) : n = xs.length + 1 ∧ w.cell? ⟨g, xs.length, none⟩ = some (.int .i64 (q : Int)) := by
  have hl := h.1
  simp at hl
  refine ⟨by omega, ?_⟩
  rw [h.cellAt xs.length (by omega)]
  simp [intV]
theorem IsW.shut {a : Nat} {S : WSt} {w : World} {gb cb g cap m q : Nat} {xs : List Nat} (h : IsW 88 w a S (.slice (some ⟨gb, 0, none⟩) S.bytes.length cb) (.slice (some ⟨g, 0, none⟩) m cap)) (ho : S.opens = xs ++ [q]) (hq : q + 2 ≤ S.bytes.length) (hl : S.bytes.length - q - 2 ≤ 65535) :
    WPost 88 w a (.slice (some ⟨gb, 0, none⟩) S.bytes.length cb) (.slice (some ⟨g, 0, none⟩) m cap) { S with bytes := (S.bytes.set q (UInt8.ofNat (S.bytes.length - q - 2))).set (q + 1) (UInt8.ofNat ((S.bytes.length - q - 2) / 256)), opens := xs }
      (((w.setCell ⟨gb, q, none⟩ (.int .u8 (((S.bytes.length : Int) - (q : Int) - 2) % 256))).setCell ⟨gb, q + 1, none⟩ (.int .u8 (((S.bytes.length : Int) - (q : Int) - 2) / 256))).setCell ⟨a, 2, none⟩ (.slice (some ⟨g, 0, none⟩) xs.length cap)) := by
  have hr := wrow h (by decide)
  have n1 : gb ≠ a := fun e => hr.1 (by rw [← e]; rfl)
  have n3 : g ≠ a := fun e => hr.2.1 (by rw [← e]; rfl)
  have n4 : gb ≠ g := fun e => hr.2.2 gb rfl (by rw [e]; rfl)
  have v1 : Value.int .u8 (((S.bytes.length : Int) - (q : Int) - 2) % 256) = byteV (UInt8.ofNat (S.bytes.length - q - 2)) := by
    rw [byteV_mod]
    congr 2
    omega
  have v2 : Value.int .u8 (((S.bytes.length : Int) - (q : Int) - 2) / 256) = byteV (UInt8.ofNat ((S.bytes.length - q - 2) / 256)) := by
    rw [byteV_mod]
    congr 1
    omega
  rw [v1, v2]
  have hb := h.b
  have b1 := (hb.stored q (byteV (UInt8.ofNat (S.bytes.length - q - 2)))).1
  have b2 := (b1.stored (q + 1) (byteV (UInt8.ofNat ((S.bytes.length - q - 2) / 256)))).1
  have b3 := ownsRow_set b2 (a := ⟨a, 2, none⟩) (by simp [Value.ownBlock, n1]) (.slice (some ⟨g, 0, none⟩) xs.length cap)
  have hoo := h.o
  rw [ho] at hoo
  have hm : m = xs.length + 1 := by
    rcases ownsRow_form h.o with ⟨h1, _⟩ | ⟨g', cap', h1, _⟩
    · simp at h1
    · simp only [Value.slice.injEq, Option.some.injEq, Addr.mk.injEq, and_true] at h1
      rw [h1.2.1, ho]
      simp
  have o0 : w.ownsRow 0 3 1 (.slice (some ⟨g, 0, none⟩) m cap) m ((xs ++ [q]).map intV) := by
    have : (xs ++ [q]).length = m := by simp; omega
    rwa [this] at hoo
  have o1 := ownsRow_cut o0 xs.length (by omega)
  have o2 := ownsRow_set o1 (a := ⟨gb, q, none⟩) (by simp [Value.ownBlock, Ne.symm n4]) (byteV (UInt8.ofNat (S.bytes.length - q - 2)))
  have o3 := ownsRow_set o2 (a := ⟨gb, q + 1, none⟩) (by simp [Value.ownBlock, Ne.symm n4]) (byteV (UInt8.ofNat ((S.bytes.length - q - 2) / 256)))
  have o4 := ownsRow_set o3 (a := ⟨a, 2, none⟩) (by simp [Value.ownBlock, n3]) (.slice (some ⟨g, 0, none⟩) xs.length cap)
  refine ⟨.slice (some ⟨gb, 0, none⟩) S.bytes.length cb, .slice (some ⟨g, 0, none⟩) xs.length cap, ⟨⟨h.wf.limit, by simpa using h.wf.bytes, fun x hx => ?_, ?_, h.wf.err⟩, ?_, ?_, ?_⟩, ?_, ?_⟩
  · have := h.wf.opens x (by rw [ho]; simp [hx])
    simpa using this
  · have := h.wf.many
    rw [ho] at this
    simp at this ⊢
    omega
  · rw [heap_setCell_same (t := 88) (cs := #[.int .i64 (S.limit : Int), .slice (some ⟨gb, 0, none⟩) S.bytes.length cb, .slice (some ⟨g, 0, none⟩) m cap, .int .i64 (S.err : Int)]) _ _ _ _ (by
      rw [heap_setCell_other _ _ _ _ (by simpa using Ne.symm n1), heap_setCell_other _ _ _ _ (by simpa using Ne.symm n1)]
      exact h.cells)]
    rfl
  · simpa [List.map_set] using b3
  · have e : ((xs ++ [q]).map intV).take xs.length = xs.map intV := by simp
    rw [e] at o4
    exact o4
  · exact (((Mods.refl _ _).setCell (p := ⟨gb, q, none⟩) (Or.inl (mem_foot.2 (Or.inr (Or.inl rfl)))) _).setCell (p := ⟨gb, q + 1, none⟩) (Or.inl (mem_foot.2 (Or.inr (Or.inl rfl)))) _).setCell (p := ⟨a, 2, none⟩) (Or.inl (mem_foot.2 (Or.inl rfl))) _
  · intro k hk
    rcases mem_foot.1 hk with rfl | hk | hk
    · exact Or.inl (mem_foot.2 (Or.inl rfl))
    · exact Or.inl (mem_foot.2 (Or.inr (Or.inl hk)))
    · exact Or.inl (mem_foot.2 (Or.inr (Or.inr hk)))
end Go.Proofs.YtmcekhgmmocajaaGreatDoor
