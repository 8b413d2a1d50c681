/- The walks of the writer's methods, on: Text, Open, Shut. | The walk of the writer's Shut. | A writer of one's own, its calls; known. -/
import Derived.Test.YtlgoeipgmjcboaaGreatDoorWs
namespace Go.Proofs.YtlgoeipgmjcboaaGreatDoor
open Go.RowKit Me

theorem IsW.alloc {T : TypeId} {w : World} {a : Nat} {S : WSt} {vb vo : Value} (h : IsW T w a S vb vo) (o : Obj) : IsW T (w.alloc o) a S vb vo := h.mods ((Mods.refl [] _).alloc o) (fun _ _ h => by cases h)
/-- The cells of a writer, in a world of which it is known what an append turned. -/
theorem behind_grow {T : TypeId} {w w1 : World} {a : Nat} {S : WSt} {vb vo : Value} {row : Option Nat} (h : IsW T w a S vb vo) (hg : w.grownBy w1 row) (hr : row ≠ some a) :
    w1.heap[a]? = some (.cells #[.int .i64 (S.limit : Int), vb, vo, .int .i64 (S.err : Int)] T (0, 0)) ∧ w1.cell? ⟨a, 1, none⟩ = some vb ∧ w1.frozen? ⟨a, 1, none⟩ = false ∧ w1.cell? ⟨a, 2, none⟩ = some vo ∧ w1.frozen? ⟨a, 2, none⟩ = false := by
  have ha : w1.heap[a]? = _ := (hg.block a (Array.getElem?_eq_some_iff.1 h.cells).1 (fun e => hr e.symm)).trans h.cells
  obtain ⟨_, c1, c2, _, f1, f2, _⟩ := cell4 ha
  exact ⟨ha, c1, f1, c2, f2⟩

/-- A place has been put behind those of the parts that are open. -/
theorem IsW.push {T : TypeId} {W w1 : World} {a : Nat} {S : WSt} {vb vo v' : Value} {q : Nat} (h : IsW T W a S vb vo) (hT : T ≠ 5 ∧ T ≠ 3) (hg : W.grownBy w1 vo.ownBlock)
    (hown : w1.ownsRow 0 3 1 v' (S.opens.length + 1) (S.opens.map intV ++ [intV q])) (hat : v'.ownBlock = vo.ownBlock ∨ v'.ownBlock = some W.heap.size) (hq : q + 2 ≤ S.bytes.length) (hm : S.opens.length + 1 ≤ S.bytes.length) :
    IsW T (w1.setCell ⟨a, 2, none⟩ v') a { S with opens := S.opens ++ [q] } vb v' ∧ Mods (foot a vb vo) W (w1.setCell ⟨a, 2, none⟩ v') := by
  have hr := wrow h hT
  have ha := (behind_grow h hg hr.2.1).1
  have hva : v'.ownBlock ≠ some a := by
    rcases hat with e | e
    · rw [e]; exact hr.2.1
    · rw [e]
      have := (Array.getElem?_eq_some_iff.1 h.cells).1
      intro e'
      have := Option.some.inj e'
      omega
  refine ⟨⟨⟨h.wf.limit, h.wf.bytes, fun x hx => ?_, by simpa using hm, h.wf.err⟩, by rw [heap_setCell_same _ _ _ _ _ _ ha]; rfl, ?_, ?_⟩, ?_⟩
  · rcases List.mem_append.1 hx with hx | hx
    · exact h.wf.opens x hx
    · simp at hx
      subst hx
      exact hq
  · refine ownsRow_set (h.b.kept hg ?_) hr.1 v'
    by_cases e : vb.ownBlock = none
    · exact Or.inl e
    · refine Or.inr fun e2 => ?_
      obtain ⟨k, hk⟩ := Option.ne_none_iff_exists'.1 e
      exact hr.2.2 k hk (by rw [← e2]; exact hk)
  · have hx := ownsRow_set hown (a := ⟨a, 2, none⟩) hva v'
    simpa using hx
  · exact ((Mods.refl _ _).grown hg (fun b hb => Or.inl (mem_foot.2 (Or.inr (Or.inr hb))))).setCell (p := ⟨a, 2, none⟩) (Or.inl (mem_foot.2 (Or.inl rfl))) _

theorem src_at {P : Program} {tx e' : TypeId} (hk : P.underlying tx = some (.slice e')) (w : World) (xs : List Value) (t : TypeId) (k n : Nat) (hk2 : w.heap.size = k) (hn : xs.length = n) (h1 : ∀ u ∈ xs, u.oneCell' = true) : Src P 1 tx (.slice (some ⟨k, 0, none⟩) n n) n xs (w.alloc (.cells xs.toArray t)) := by
  subst hk2
  exact src_lit hk w xs t n hn h1
theorem size_set (w : World) (a : Addr) (v : Value) : (w.setCell a v).heap.size = w.heap.size := by simp [World.setCell]
set_option maxRecDepth 100000 in
set_option maxHeartbeats 1000000 in
theorem open_fits {a : Nat} {S : WSt} {vb vo : Value} {w : World} (h : IsW 195 w a S vb vo) (he : S.err = 0) (hf : S.bytes.length + 2 ≤ S.limit) :
    Calls Tryz.prog 261 #[.pointer (some ⟨a, 0, none⟩)] w fun e w' => e = .returned (.int .i64 (S.bytes.length : Int)) ∧ WPost 195 w a vb vo { S.add [0, 0] with opens := S.opens ++ [S.bytes.length] } w' := by
  have hl1 := h.wf.limit
  have hl2 := h.wf.many
  have hsz : S.bytes.length ≤ 100000000 := by omega
  have hso : S.opens.length ≤ 100000000 := by omega
  have H := Lib.hid h
  have HE := Lib.hid he
  have HF := Lib.hid hf
  clear h he hf hl1 hl2
  obtain ⟨i0, hi, hz0, hz1, hz2⟩ := info_parts info5
  obtain ⟨i1, hj, hy0, hy1, hy2⟩ := info_parts info3
  go_enter Tryz.func261, Tryz.ntmps261
  go_wp2_with fail
  refine (room_fits H.out 2 (by omega) (by omega) HE.out (by have := HF.out; omega)).mono ?_; rintro e w1 ⟨rfl, k, rfl⟩
  obtain ⟨c0, c1, c2, c3, f1, f2, f3⟩ := cell4 (H.out.drewN k).cells
  obtain ⟨A, c, hvb, hlc, hcm⟩ := ownsRow_slice H.out.b
  clear c0 c2 c3 f2 f3
  subst hvb
  go_wp2_with (at_builtin; go_must (refine wpList_app _ rfl _ _ 43 43 rfl 0 5 i0 (.int .u8 0) 1 1 Tryz.underlying43 hi hz0 hz1 hz2 rfl _ _ _ rfl ((H.out.drewN k).b.alloc _) _ 2 [.int .u8 0, .int .u8 0] rfl ?c1 ?c2 ?c3 ?c4 ?_))
  case c1 => exact src_lit Tryz.underlying43 (w.drewN k) [.int .u8 0, .int .u8 0] 5 2 rfl (by intro u hu; simp at hu; rw [hu]; rfl)
  case c2 => unfold maxLen; omega
  case c3 => omega
  case c4 => exact Nat.zero_le _
  intro v' w1 hown hgrow hat2
  obtain ⟨_, d1, g1, d2, g2⟩ := behind_grow ((H.out.drewN k).alloc _) hgrow (wrow (H.out.alloc (.cells #[] 0)) (by decide)).1
  obtain ⟨A', c', rfl⟩ := own_ctor hown
  have hx := (((H.out.drewN k).alloc _).app (by decide) hgrow hown (by simpa using hat2) (bs := [0, 0]) rfl HF.out)
  have HW1 := Lib.hid hx.1
  have HM1 := Lib.hid ((((Mods.refl [] w).drewN k).alloc _).mono (G := foot a _ vo) (by simp) |>.trans hx.2 (fun b hb => Or.inl hb))
  have HA1 : Hid ((Value.slice A' (S.bytes.length + 2) c').ownBlock = (Value.slice A S.bytes.length c).ownBlock ∨ ∃ k, (Value.slice A' (S.bytes.length + 2) c').ownBlock = some k ∧ w.heap.size ≤ k) := Lib.hid (by
    rcases hat2 with e | e
    · exact Or.inl e
    · exact Or.inr ⟨_, e, by simp⟩)
  obtain ⟨e0, e1, e2, e3, k1, k2, k3⟩ := cell4 hx.1.cells
  obtain ⟨A2, c2', hvo, hlc2, hcm2⟩ := ownsRow_slice hx.1.o
  subst hvo
  clear hx hown hgrow hat2 c1 f1 e0 e1 e3 k1 k3
  go_wp2_with (at_builtin; go_must (refine wpList_app _ rfl _ _ 63 63 rfl 0 3 i1 (.int .i64 0) 1 8 Tryz.underlying63 hj hy0 hy1 hy2 rfl _ _ _ rfl (HW1.out.o.alloc _) _ 1 [.int .i64 (S.bytes.length : Int)] rfl ?d1 ?d2 ?d3 ?d4 ?_))
  case d1 => exact src_at Tryz.underlying63 (w1.setCell ⟨a, 1, none⟩ (.slice A' (S.bytes.length + 2) c')) [.int .i64 (S.bytes.length : Int)] 3 _ 1 (size_set _ _ _) rfl (by intro u hu; simp at hu; subst hu; rfl)
  case d2 => have e : (S.add [0, 0]).opens.length = S.opens.length := rfl; unfold maxLen; omega
  case d3 => have e : (S.add [0, 0]).opens.length = S.opens.length := rfl; omega
  case d4 => exact Nat.zero_le _
  intro v2 w2 hown hgrow hat2
  obtain ⟨_, _, _, d2', g2'⟩ := behind_grow (HW1.out.alloc _) hgrow (wrow (HW1.out.alloc (.cells #[] 0)) (by decide)).2.1
  obtain ⟨A3, c3', rfl⟩ := own_ctor hown
  have hx := ((HW1.out.alloc _).push (by decide) hgrow hown (by simpa using hat2) (by simp [WSt.add]) (by have := H.out.wf.many; simp only [WSt.add, List.length_append, List.length_cons, List.length_nil]; omega))
  have HM2 := Lib.hid (HM1.out.trans (((Mods.refl [] _).alloc _).mono (G := foot a _ _) (by simp) |>.trans hx.2 (fun b hb => Or.inl hb)) (fun b hb => by
    rcases mem_foot.1 hb with rfl | hb | hb
    · exact Or.inl (mem_foot.2 (Or.inl rfl))
    · rcases HA1.out with e | ⟨j, e, hj⟩
      · exact Or.inl (mem_foot.2 (Or.inr (Or.inl (by rw [← e]; exact hb))))
      · rw [e] at hb
        obtain rfl := Option.some.inj hb
        exact Or.inr hj
    · exact Or.inl (mem_foot.2 (Or.inr (Or.inr hb)))))
  have HW2 := Lib.hid hx.1
  have HA2 := Lib.hid hat2
  clear hx hown hgrow hat2
  go_wp2_with fail
  go_ret
  refine ⟨rfl, _, _, HW2.out, HM2.out, fun b hb => ?_⟩
  rcases mem_foot.1 hb with rfl | hb | hb
  · exact Or.inl (mem_foot.2 (Or.inl rfl))
  · rcases HA1.out with e | ⟨j, e, hj⟩
    · exact Or.inl (mem_foot.2 (Or.inr (Or.inl (by rw [← e]; exact hb))))
    · rw [e] at hb
      obtain rfl := Option.some.inj hb
      exact Or.inr hj
  · rcases HA2.out with e | e
    · exact Or.inl (mem_foot.2 (Or.inr (Or.inr (by rw [← e]; exact hb))))
    · rw [e] at hb
      obtain rfl := Option.some.inj hb
      exact Or.inr (by have := HM1.out.size; simp at *; omega)

set_option maxHeartbeats 400000 in
/-- Open. -/
theorem open_any {a : Nat} {S : WSt} {vb vo : Value} {w : World} (h : IsW 195 w a S vb vo) :
    Calls Tryz.prog 261 #[.pointer (some ⟨a, 0, none⟩)] w fun e w' => e = .returned (.int .i64 (S.opn.2 : Int)) ∧ WPost 195 w a vb vo S.opn.1 w' := by
  unfold WSt.opn
  by_cases he : S.err = 0
  · by_cases hf : S.limit < S.bytes.length + 2
    · rw [WSt.put_full [0, 0] he (by simpa using hf), if_pos (by simp)]
      have H := Lib.hid h
      have HE := Lib.hid he
      have HF := Lib.hid hf
      clear h he hf
      go_enter Tryz.func261, Tryz.ntmps261
      go_wp2_with fail
      refine (room_full H.out (by decide) 2 (by omega) (by omega) HE.out (by have := HF.out; omega)).mono ?_; rintro e w1 ⟨rfl, hw, hm⟩
      have HW := Lib.hid hw
      have HM := Lib.hid hm
      clear hw hm
      go_wp2_with fail
      go_ret
      exact ⟨rfl, WPost.same HW.out HM.out (by simp [foot])⟩
    · rw [WSt.put_fits [0, 0] he (by simpa using hf), if_neg (by simp [he])]
      exact open_fits h he (by omega)
  · rw [WSt.put_err _ he, if_pos he]
    have H := Lib.hid h
    have HE := Lib.hid he
    clear h he
    go_enter Tryz.func261, Tryz.ntmps261
    go_wp2_with fail
    refine (room_err H.out _ HE.out).mono ?_; rintro e w1 ⟨rfl, rfl⟩
    go_wp2_with fail
    go_ret
    exact ⟨rfl, WPost.same H.out (Mods.refl [] _) (by simp)⟩

theorem le_cells (n : Nat) (h : n ≤ 65535) : [Value.int .u8 ((n : Int) % 256), .int .u8 ((n : Int) / 256)] = (le n 2).map byteV := by
  simp only [le, List.map_cons, List.map_nil, byteV_mod]
  have : ((n / 256 : Nat) : Int) % 256 = (n : Int) / 256 := by omega
  rw [this]
theorem foot_step {a : Nat} {vb vo vb' : Value} {w : World} (hat : vb'.ownBlock = vb.ownBlock ∨ ∃ k, vb'.ownBlock = some k ∧ w.heap.size ≤ k) : ∀ b ∈ foot a vb' vo, b ∈ foot a vb vo ∨ w.heap.size ≤ b := by
  intro b hb
  rcases mem_foot.1 hb with rfl | hb | hb
  · exact Or.inl (mem_foot.2 (Or.inl rfl))
  · rcases hat with e | ⟨j, e, hj⟩
    · exact Or.inl (mem_foot.2 (Or.inr (Or.inl (by rw [← e]; exact hb))))
    · rw [e] at hb
      obtain rfl := Option.some.inj hb
      exact Or.inr hj
  · exact Or.inl (mem_foot.2 (Or.inr (Or.inr hb)))
theorem at_step {vb vb' v2 : Value} {w w1 : World} (hat : vb'.ownBlock = vb.ownBlock ∨ ∃ k, vb'.ownBlock = some k ∧ w.heap.size ≤ k) (h2 : v2.ownBlock = vb'.ownBlock ∨ v2.ownBlock = some w1.heap.size) (hs : w.heap.size ≤ w1.heap.size) :
    v2.ownBlock = vb.ownBlock ∨ ∃ k, v2.ownBlock = some k ∧ w.heap.size ≤ k := by
  rcases h2 with e | e
  · rw [e]; exact hat
  · exact Or.inr ⟨_, e, hs⟩

set_option maxRecDepth 100000 in
set_option maxHeartbeats 1000000 in
theorem text_fits {a : Nat} {S : WSt} {vb vo : Value} {w : World} (h : IsW 195 w a S vb vo) (s : ByteArray) (hT : Lib.Utf8Tabs 4 5 w) (he : S.err = 0) (h6 : s.size ≤ 65535) (hg : Tx.good s.data.toList = true) (hf : S.bytes.length + (2 + s.size) ≤ S.limit) :
    Calls Tryz.prog 138 #[.pointer (some ⟨a, 0, none⟩), .string s] w fun e w' => e = .returned (.tuple #[]) ∧ WPost 195 w a vb vo (S.add (le s.size 2 ++ s.data.toList)) w' := by
  have hl1 := h.wf.limit
  have hsz : S.bytes.length ≤ 100000000 := by omega
  obtain ⟨c0, c1, c2, c3, f1, f2, f3⟩ := cell4 h.cells
  rw [he] at c3
  have H := Lib.hid h
  have HE := Lib.hid he
  have HF := Lib.hid hf
  have HG := Lib.hid (good_is s true w (by unfold maxLen; omega) hT hg)
  clear h he hf hl1 hg hT c0 c1 c2 f1 f2 f3
  obtain ⟨i0, hi, hz0, hz1, hz2⟩ := info_parts info5
  go_enter Tryz.func138, Tryz.ntmps138
  go_wp2_with fail
  refine HG.out.mono ?_; rintro e w0 ⟨rfl, hb0⟩
  have H0 := Lib.hid (H.out.below hb0)
  have HB0 := Lib.hid hb0
  clear hb0 c3
  go_wp2_with fail
  refine (room_fits H0.out (2 + (s.size : Int)) (by omega) (by omega) HE.out (by have := HF.out; omega)).mono ?_; rintro e w1 ⟨rfl, k, rfl⟩
  obtain ⟨c0, c1, c2, c3, f1, f2, f3⟩ := cell4 (H0.out.drewN k).cells
  obtain ⟨A, c, hvb, hlc, hcm⟩ := ownsRow_slice H0.out.b
  subst hvb
  clear c0 c2 c3 f2 f3
  go_wp2_with (at_builtin; go_must (refine wpList_app _ rfl _ _ 43 43 rfl 0 5 i0 (.int .u8 0) 1 1 Tryz.underlying43 hi hz0 hz1 hz2 rfl _ _ _ rfl ((H0.out.drewN k).b.alloc _) _ 2 [.int .u8 ((s.size : Int) % 256), .int .u8 ((s.size : Int) / 256)] rfl ?c1 ?c2 ?c3 ?c4 ?_))
  case c1 => exact src_at Tryz.underlying43 (w0.drewN k) [.int .u8 ((s.size : Int) % 256), .int .u8 ((s.size : Int) / 256)] 5 _ 2 rfl rfl (by intro u hu; simp at hu; rcases hu with rfl | rfl <;> rfl)
  case c2 => unfold maxLen; omega
  case c3 => omega
  case c4 => exact Nat.zero_le _
  intro v' w1 hown hgrow hat2
  obtain ⟨_, d1, g1, _, _⟩ := behind_grow ((H0.out.drewN k).alloc _) hgrow (wrow (H0.out.alloc (.cells #[] 0)) (by decide)).1
  obtain ⟨A', c', rfl⟩ := own_ctor hown
  have hx := (((H0.out.drewN k).alloc _).app (by decide) hgrow hown (by simpa using hat2) (bs := le s.size 2) (le_cells _ h6) (by have := HF.out; rw [le_length]; omega))
  have HW1 := Lib.hid hx.1
  have HM1 := Lib.hid (((below_mods HB0.out).trans (((Mods.refl [] w0).drewN k).alloc _) (by simp)).mono (G := foot a (.slice A S.bytes.length c) vo) (by simp) |>.trans hx.2 (fun b hb => Or.inl hb))
  have HA1 : Hid ((Value.slice A' (S.bytes.length + 2) c').ownBlock = (Value.slice A S.bytes.length c).ownBlock ∨ ∃ k, (Value.slice A' (S.bytes.length + 2) c').ownBlock = some k ∧ w.heap.size ≤ k) := Lib.hid (by
    rcases hat2 with e | e
    · exact Or.inl e
    · exact Or.inr ⟨_, e, by have := HB0.out.size; simp; omega⟩)
  obtain ⟨e0, e1, e2, e3, k1, k2, k3⟩ := cell4 hx.1.cells
  have hlen2 : (S.add (le s.size 2)).bytes.length = S.bytes.length + 2 := by simp [WSt.add, le_length]
  have HL2 := Lib.hid hlen2
  clear hx hown hgrow hat2 c1 f1 e0 e2 e3 k2 k3 hlen2
  go_wp2_with (at_builtin; go_must (refine wpList_app _ rfl _ _ 43 9 rfl 0 5 i0 (.int .u8 0) 1 1 Tryz.underlying43 hi hz0 hz1 hz2 rfl _ _ _ rfl HW1.out.b _ s.size (byteCells s) rfl ?d1 ?d2 ?d3 ?d4 ?_))
  case d1 => exact Src.ofString _ Tryz.underlying9 s
  case d2 => have := HL2.out; unfold maxLen; omega
  case d3 => have := HL2.out; omega
  case d4 => exact Nat.zero_le _
  intro v2 w2 hown hgrow hat2
  obtain ⟨_, d2, g2, _, _⟩ := behind_grow HW1.out hgrow (wrow HW1.out (by decide)).1
  obtain ⟨A3, c3', rfl⟩ := own_ctor hown
  have hx := (HW1.out.app (by decide) hgrow hown (by simpa [size_set] using hat2) (bs := s.data.toList) rfl (by have h1 := HF.out; have h2 := HL2.out; rw [size_list]; simp only [WSt.add] at h2 ⊢; omega))
  rw [add_add] at hx
  have HW2 := Lib.hid hx.1
  have HM2 := Lib.hid (HM1.out.trans hx.2 (foot_step HA1.out))
  have HA2 := Lib.hid (at_step HA1.out hat2 (by have := HM1.out.size; rwa [size_set] at this))
  clear hx hown hgrow hat2 e1 k1
  go_wp2_with fail
  go_end0
  exact ⟨rfl, WPost.of_b HW2.out HM2.out HA2.out⟩

set_option maxHeartbeats 400000 in
/-- Text. -/
theorem text_any {a : Nat} {S : WSt} {vb vo : Value} {w : World} (h : IsW 195 w a S vb vo) (s : ByteArray) (hs : s.size ≤ maxLen) (hT : Lib.Utf8Tabs 4 5 w) :
    Calls Tryz.prog 138 #[.pointer (some ⟨a, 0, none⟩), .string s] w fun e w' => e = .returned (.tuple #[]) ∧ WPost 195 w a vb vo (S.text s.data.toList) w' := by
  have hsm := hs
  unfold maxLen at hsm
  unfold WSt.text
  obtain ⟨c0, c1, c2, c3, f1, f2, f3⟩ := cell4 h.cells
  by_cases he : S.err = 0
  · rw [if_neg (by omega)]
    rw [he] at c3
    by_cases h6 : 65535 < s.size
    · rw [if_pos (by rw [size_list]; exact h6)]
      have HW := Lib.hid (h.wrong (by decide) 13 (by omega))
      have HM := Lib.hid ((Mods.refl [a] w).setCell (p := ⟨a, 3, none⟩) (Or.inl (by simp)) (.int .i64 ((13 : Nat) : Int)))
      clear h he hT hs c0 c1 c2 f1 f2
      go_enter Tryz.func138, Tryz.ntmps138
      go_wp2_with fail
      refine bodyPost_ret (results_none rfl _ _ _) rfl ?_
      exact ⟨rfl, WPost.same HW.out HM.out (by simp [foot])⟩
    · rw [if_neg (by rw [size_list]; exact h6)]
      by_cases hg : Tx.good s.data.toList = false
      · rw [if_pos hg]
        have HG := Lib.hid (good_is s false w hs hT hg)
        have H := Lib.hid h
        clear h he hT hs c0 c1 c2 f1 f2 hg f3
        go_enter Tryz.func138, Tryz.ntmps138
        go_wp2_with fail
        refine HG.out.mono ?_; rintro e w0 ⟨rfl, hb0⟩
        have HB0 := Lib.hid (below_mods hb0)
        have h1 := H.out.below hb0
        obtain ⟨_, _, _, d3, _, _, f3⟩ := cell4 h1.cells
        have HW := Lib.hid (h1.wrong (by decide) 12 (by omega))
        clear h1 hb0 c3
        go_wp2_with fail
        refine bodyPost_ret (results_none rfl _ _ _) rfl ?_
        exact ⟨rfl, WPost.same HW.out ((HB0.out.mono (G := [a]) (by simp)).setCell (p := ⟨a, 3, none⟩) (Or.inl (by simp)) _) (by simp [foot])⟩
      · rw [if_neg hg]
        have hg' : Tx.good s.data.toList = true := by simpa using hg
        have hln : (le s.data.toList.length 2 ++ s.data.toList).length = 2 + s.size := by rw [List.length_append, le_length, size_list]
        by_cases hf : S.limit < S.bytes.length + (2 + s.size)
        · rw [WSt.put_full _ he (by rw [hln]; exact hf)]
          have HG := Lib.hid (good_is s true w hs hT hg')
          have H := Lib.hid h
          have HE := Lib.hid he
          have HF := Lib.hid hf
          clear h he hT hs c0 c1 c2 f1 f2 hg hg' f3 hln hf
          go_enter Tryz.func138, Tryz.ntmps138
          go_wp2_with fail
          refine HG.out.mono ?_; rintro e w0 ⟨rfl, hb0⟩
          have HB0 := Lib.hid (below_mods hb0)
          have H1 := Lib.hid (H.out.below hb0)
          clear hb0 c3
          go_wp2_with fail
          refine (room_full H1.out (by decide) (2 + (s.size : Int)) (by omega) (by omega) HE.out (by have := HF.out; omega)).mono ?_; rintro e w1 ⟨rfl, hw, hm⟩
          have HW := Lib.hid hw
          have HM := Lib.hid (HB0.out.mono (G := [a]) (by simp) |>.trans hm (fun b hb => Or.inl hb))
          clear hw hm
          go_wp2_with fail
          go_end0
          exact ⟨rfl, WPost.same HW.out HM.out (by simp [foot])⟩
        · rw [WSt.put_fits _ he (by rw [hln]; exact hf), size_list]
          exact text_fits h s hT he (by omega) hg' (by omega)
  · rw [if_pos he]
    have he' : ((S.err : Int) != 0) = true := by rw [bne_iff_ne]; omega
    have H := Lib.hid h
    clear h he hT hs c0 c1 c2 f1 f2 f3
    go_enter Tryz.func138, Tryz.ntmps138
    go_wp2_with fail
    refine bodyPost_ret (results_none rfl _ _ _) rfl ?_
    exact ⟨rfl, WPost.same H.out (Mods.refl [] _) (by simp)⟩
end Go.Proofs.YtlgoeipgmjcboaaGreatDoor
namespace Go.Proofs.YtlgoeipgmjcboaaGreatDoor
open Go.RowKit Me

set_option maxHeartbeats 400000 in
theorem shut_err {a : Nat} {S : WSt} {vb vo : Value} {w : World} (h : IsW 195 w a S vb vo) (p : Int) (he : S.err ≠ 0) :
    Calls Tryz.prog 263 #[.pointer (some ⟨a, 0, none⟩), .int .i64 p] w fun e w' => e = .returned (.tuple #[]) ∧ w = w' := by
  obtain ⟨c0, c1, c2, c3, f1, f2, f3⟩ := cell4 h.cells
  have he' : ((S.err : Int) != 0) = true := by rw [bne_iff_ne]; omega
  clear h he c0 c1 c2 f1 f2 f3
  go_enter Tryz.func263, Tryz.ntmps263
  go_wp2_with fail
  refine bodyPost_ret (results_none rfl _ _ _) rfl ?_
  exact ⟨rfl, rfl⟩
set_option maxHeartbeats 400000 in
theorem shut_none {a : Nat} {S : WSt} {vb vo : Value} {w : World} (h : IsW 195 w a S vb vo) (p : Int) (he : S.err = 0) (ho : S.opens = []) :
    Calls Tryz.prog 263 #[.pointer (some ⟨a, 0, none⟩), .int .i64 p] w fun e w' => e = .returned (.tuple #[]) ∧ WPost 195 w a vb vo { S with err := 1 } w' := by
  obtain ⟨c0, c1, c2, c3, f1, f2, f3⟩ := cell4 h.cells
  obtain ⟨A, c, hvo, hlc, hcm⟩ := ownsRow_slice h.o
  rw [ho] at hvo
  have HW := Lib.hid (h.wrong (by decide) 1 (by omega))
  have HM := Lib.hid ((Mods.refl [a] w).setCell (p := ⟨a, 3, none⟩) (Or.inl (by simp)) (.int .i64 ((1 : Nat) : Int)))
  rw [he] at c3
  subst hvo
  simp only [List.length_nil] at c2
  clear h he ho c0 c1 f1 f2 hlc
  go_enter Tryz.func263, Tryz.ntmps263
  go_wp2_with fail
  refine bodyPost_ret (results_none rfl _ _ _) rfl ?_
  exact ⟨rfl, WPost.same HW.out HM.out (by simp [foot])⟩
theorem last_cell {w : World} {g c n q : Nat} {xs : List Nat} (h : w.ownsRow 0 3 1 (.slice (some ⟨g, 0, none⟩) n c) n ((xs ++ [q]).map intV)) : n = xs.length + 1 ∧ w.cell? ⟨g, xs.length, none⟩ = some (.int .i64 (q : Int)) := by
  have hl := h.1
  simp at hl
  refine ⟨by omega, ?_⟩
  rw [h.cellAt xs.length (by omega)]
  simp [intV]
set_option maxHeartbeats 400000 in
theorem shut_other {a : Nat} {S : WSt} {vb vo : Value} {w : World} (h : IsW 195 w a S vb vo) (p : Int) (he : S.err = 0) (xs : List Nat) (q : Nat) (ho : S.opens = xs ++ [q]) (hp : (q : Int) ≠ p) :
    Calls Tryz.prog 263 #[.pointer (some ⟨a, 0, none⟩), .int .i64 p] w fun e w' => e = .returned (.tuple #[]) ∧ WPost 195 w a vb vo { S with err := 1 } w' := by
  obtain ⟨c0, c1, c2, c3, f1, f2, f3⟩ := cell4 h.cells
  have hoo := h.o
  have hmany := h.wf.many
  have hb1 := h.wf.bytes
  have hb2 := h.wf.limit
  rw [ho] at hoo hmany
  have HW := Lib.hid (h.wrong (by decide) 1 (by omega))
  have HM := Lib.hid ((Mods.refl [a] w).setCell (p := ⟨a, 3, none⟩) (Or.inl (by simp)) (.int .i64 ((1 : Nat) : Int)))
  rw [he] at c3
  rcases ownsRow_form hoo with ⟨_, h0, _⟩ | ⟨g, cap, rfl, hnc, hcm, _⟩
  · simp at h0
  · obtain ⟨hn, hcell⟩ := last_cell hoo
    have hpq : ((q : Int) != p) = true := by rw [bne_iff_ne]; exact hp
    simp only [List.length_append, List.length_cons, List.length_nil, Nat.zero_add] at c2 hnc hmany
    clear h he ho c0 c1 f1 f2 hoo hn hp
    go_enter Tryz.func263, Tryz.ntmps263
    go_wp2_with fail
    refine bodyPost_ret (results_none rfl _ _ _) rfl ?_
    exact ⟨rfl, WPost.same HW.out HM.out (by simp [foot])⟩
set_option maxHeartbeats 400000 in
theorem shut_long {a : Nat} {S : WSt} {vb vo : Value} {w : World} (h : IsW 195 w a S vb vo) (he : S.err = 0) (xs : List Nat) (q : Nat) (ho : S.opens = xs ++ [q]) (hlong : 65535 < S.bytes.length - q - 2) :
    Calls Tryz.prog 263 #[.pointer (some ⟨a, 0, none⟩), .int .i64 (q : Int)] w fun e w' => e = .returned (.tuple #[]) ∧ WPost 195 w a vb vo { S with err := 13 } w' := by
  obtain ⟨c0, c1, c2, c3, f1, f2, f3⟩ := cell4 h.cells
  have hoo := h.o
  have hmany := h.wf.many
  have hb1 := h.wf.bytes
  have hb2 := h.wf.limit
  obtain ⟨A, c, hvb, hlc, hcb⟩ := ownsRow_slice h.b
  rw [ho] at hoo hmany
  have HW := Lib.hid (h.wrong (by decide) 13 (by omega))
  have HM := Lib.hid ((Mods.refl [a] w).setCell (p := ⟨a, 3, none⟩) (Or.inl (by simp)) (.int .i64 ((13 : Nat) : Int)))
  rw [he] at c3
  rcases ownsRow_form hoo with ⟨_, h0, _⟩ | ⟨g, cap, rfl, hnc, hcm, _⟩
  · simp at h0
  · obtain ⟨hn, hcell⟩ := last_cell hoo
    subst hvb
    simp only [List.length_append, List.length_cons, List.length_nil, Nat.zero_add] at c2 hnc hmany
    clear h he ho c0 f1 f2 hoo hn
    go_enter Tryz.func263, Tryz.ntmps263
    go_wp2_with fail
    refine bodyPost_ret (results_none rfl _ _ _) rfl ?_
    exact ⟨rfl, WPost.same HW.out HM.out (by simp [foot])⟩
theorem IsW.shut {a : Nat} {S : WSt} {w : World} {gb cb g cap m q : Nat} {xs : List Nat} (h : IsW 195 w a S (.slice (some ⟨gb, 0, none⟩) S.bytes.length cb) (.slice (some ⟨g, 0, none⟩) m cap)) (ho : S.opens = xs ++ [q]) (hq : q + 2 ≤ S.bytes.length) (hl : S.bytes.length - q - 2 ≤ 65535) :
    WPost 195 w a (.slice (some ⟨gb, 0, none⟩) S.bytes.length cb) (.slice (some ⟨g, 0, none⟩) m cap) { S with bytes := (S.bytes.set q (UInt8.ofNat (S.bytes.length - q - 2))).set (q + 1) (UInt8.ofNat ((S.bytes.length - q - 2) / 256)), opens := xs }
      (((w.setCell ⟨gb, q, none⟩ (.int .u8 (((S.bytes.length : Int) - (q : Int) - 2) % 256))).setCell ⟨gb, q + 1, none⟩ (.int .u8 (((S.bytes.length : Int) - (q : Int) - 2) / 256))).setCell ⟨a, 2, none⟩ (.slice (some ⟨g, 0, none⟩) xs.length cap)) := by
  have hr := wrow h (by decide)
  have n1 : gb ≠ a := fun e => hr.1 (by rw [← e]; rfl)
  have n3 : g ≠ a := fun e => hr.2.1 (by rw [← e]; rfl)
  have n4 : gb ≠ g := fun e => hr.2.2 gb rfl (by rw [e]; rfl)
  have v1 : Value.int .u8 (((S.bytes.length : Int) - (q : Int) - 2) % 256) = byteV (UInt8.ofNat (S.bytes.length - q - 2)) := by
    rw [byteV_mod]
    congr 2
    omega
  have v2 : Value.int .u8 (((S.bytes.length : Int) - (q : Int) - 2) / 256) = byteV (UInt8.ofNat ((S.bytes.length - q - 2) / 256)) := by
    rw [byteV_mod]
    congr 1
    omega
  rw [v1, v2]
  have hb := h.b
  have b1 := (hb.stored q (byteV (UInt8.ofNat (S.bytes.length - q - 2)))).1
  have b2 := (b1.stored (q + 1) (byteV (UInt8.ofNat ((S.bytes.length - q - 2) / 256)))).1
  have b3 := ownsRow_set b2 (a := ⟨a, 2, none⟩) (by simp [Value.ownBlock, n1]) (.slice (some ⟨g, 0, none⟩) xs.length cap)
  have hoo := h.o
  rw [ho] at hoo
  have hm : m = xs.length + 1 := by
    rcases ownsRow_form h.o with ⟨h1, _⟩ | ⟨g', cap', h1, _⟩
    · simp at h1
    · simp only [Value.slice.injEq, Option.some.injEq, Addr.mk.injEq, and_true] at h1
      rw [h1.2.1, ho]
      simp
  have o0 : w.ownsRow 0 3 1 (.slice (some ⟨g, 0, none⟩) m cap) m ((xs ++ [q]).map intV) := by
    have : (xs ++ [q]).length = m := by simp; omega
    rwa [this] at hoo
  have o1 := ownsRow_cut o0 xs.length (by omega)
  have o2 := ownsRow_set o1 (a := ⟨gb, q, none⟩) (by simp [Value.ownBlock, Ne.symm n4]) (byteV (UInt8.ofNat (S.bytes.length - q - 2)))
  have o3 := ownsRow_set o2 (a := ⟨gb, q + 1, none⟩) (by simp [Value.ownBlock, Ne.symm n4]) (byteV (UInt8.ofNat ((S.bytes.length - q - 2) / 256)))
  have o4 := ownsRow_set o3 (a := ⟨a, 2, none⟩) (by simp [Value.ownBlock, n3]) (.slice (some ⟨g, 0, none⟩) xs.length cap)
  refine ⟨.slice (some ⟨gb, 0, none⟩) S.bytes.length cb, .slice (some ⟨g, 0, none⟩) xs.length cap, ⟨⟨h.wf.limit, by simpa using h.wf.bytes, fun x hx => ?_, ?_, h.wf.err⟩, ?_, ?_, ?_⟩, ?_, ?_⟩
  · have := h.wf.opens x (by rw [ho]; simp [hx])
    simpa using this
  · have := h.wf.many
    rw [ho] at this
    simp at this ⊢
    omega
  · rw [heap_setCell_same (t := 195) (cs := #[.int .i64 (S.limit : Int), .slice (some ⟨gb, 0, none⟩) S.bytes.length cb, .slice (some ⟨g, 0, none⟩) m cap, .int .i64 (S.err : Int)]) _ _ _ _ (by
      rw [heap_setCell_other _ _ _ _ (by simpa using Ne.symm n1), heap_setCell_other _ _ _ _ (by simpa using Ne.symm n1)]
      exact h.cells)]
    rfl
  · simpa [List.map_set] using b3
  · have e : ((xs ++ [q]).map intV).take xs.length = xs.map intV := by simp
    rw [e] at o4
    exact o4
  · exact (((Mods.refl _ _).setCell (p := ⟨gb, q, none⟩) (Or.inl (mem_foot.2 (Or.inr (Or.inl rfl)))) _).setCell (p := ⟨gb, q + 1, none⟩) (Or.inl (mem_foot.2 (Or.inr (Or.inl rfl)))) _).setCell (p := ⟨a, 2, none⟩) (Or.inl (mem_foot.2 (Or.inl rfl))) _
  · intro k hk
    rcases mem_foot.1 hk with rfl | hk | hk
    · exact Or.inl (mem_foot.2 (Or.inl rfl))
    · exact Or.inl (mem_foot.2 (Or.inr (Or.inl hk)))
    · exact Or.inl (mem_foot.2 (Or.inr (Or.inr hk)))
set_option maxRecDepth 100000 in
set_option maxHeartbeats 1000000 in
theorem shut_right {a : Nat} {S : WSt} {vb vo : Value} {w : World} (h : IsW 195 w a S vb vo) (he : S.err = 0) (xs : List Nat) (q : Nat) (ho : S.opens = xs ++ [q]) (hlong : ¬ 65535 < S.bytes.length - q - 2) :
    Calls Tryz.prog 263 #[.pointer (some ⟨a, 0, none⟩), .int .i64 (q : Int)] w fun e w' => e = .returned (.tuple #[]) ∧
      WPost 195 w a vb vo { S with bytes := (S.bytes.set q (UInt8.ofNat (S.bytes.length - q - 2))).set (q + 1) (UInt8.ofNat ((S.bytes.length - q - 2) / 256)), opens := xs } w' := by
  obtain ⟨c0, c1, c2, c3, f1, f2, f3⟩ := cell4 h.cells
  have hoo := h.o
  have hmany := h.wf.many
  have hb1 := h.wf.bytes
  have hb2 := h.wf.limit
  have hq := h.wf.opens q (by rw [ho]; simp)
  have hr := wrow h (by decide)
  rw [ho] at hoo hmany
  rw [he] at c3
  have H := Lib.hid h
  have HO := Lib.hid ho
  rcases ownsRow_form hoo with ⟨_, h0, _⟩ | ⟨g, cap, rfl, hnc, hcm, _⟩
  · simp at h0
  · rcases ownsRow_form h.b with ⟨_, h0, _⟩ | ⟨gb, cb, rfl, hnb, hcb, _⟩
    · omega
    · obtain ⟨hn, hcell⟩ := last_cell hoo
      have hq1 : q < S.bytes.length := by omega
      have hq2 : q + 1 < S.bytes.length := by omega
      have b1 : w.cell? ⟨gb, q, none⟩ = some (byteV S.bytes[q]) := by
        rw [h.b.cellAt q (by omega)]
        simp [hq1]
      have b2 : w.cell? ⟨gb, q + 1, none⟩ = some (byteV S.bytes[q + 1]) := by
        rw [h.b.cellAt (q + 1) (by omega)]
        simp [hq2]
      have z1 := h.b.frozenAt q
      have z2 := h.b.frozenAt (q + 1)
      have n1 : ¬ gb = a := fun e => hr.1 (by rw [← e]; rfl)
      have n2 : ¬ a = gb := fun e => n1 e.symm
      have n3 : ¬ g = a := fun e => hr.2.1 (by rw [← e]; rfl)
      have n4 : ¬ g = gb := fun e => hr.2.2 gb rfl (by rw [← e]; rfl)
      simp only [List.length_append, List.length_cons, List.length_nil, Nat.zero_add] at c2 hnc hmany
      clear h he ho c0 f1 hoo hn hr f3
      unfold byteV at b1 b2
      go_enter Tryz.func263, Tryz.ntmps263
      go_wp2_with fail
      go_end0
      exact ⟨rfl, H.out.shut HO.out hq (by omega)⟩
/-- Shut. -/
theorem shut_any {a : Nat} {S : WSt} {vb vo : Value} {w : World} (h : IsW 195 w a S vb vo) (p : Int) :
    Calls Tryz.prog 263 #[.pointer (some ⟨a, 0, none⟩), .int .i64 p] w fun e w' => e = .returned (.tuple #[]) ∧ WPost 195 w a vb vo (S.shut p) w' := by
  unfold WSt.shut
  by_cases he : S.err = 0
  · rw [if_neg (by omega)]
    rcases List.eq_nil_or_concat S.opens with ho | ⟨xs, q, ho⟩
    · have hl : S.opens.getLast? = none := by rw [ho]; rfl
      simp only [hl]
      exact shut_none h p he ho
    · rw [List.concat_eq_append] at ho
      have hl : S.opens.getLast? = some q := by rw [ho]; simp
      have hd : S.opens.dropLast = xs := by rw [ho]; simp
      simp only [hl, hd]
      by_cases hp : (q : Int) = p
      · subst hp
        rw [if_neg (by simp)]
        by_cases hlong : 65535 < S.bytes.length - q - 2
        · rw [if_pos hlong]
          exact shut_long h he xs q ho hlong
        · rw [if_neg hlong]
          exact shut_right h he xs q ho hlong
      · rw [if_pos hp]
        exact shut_other h p he xs q ho hp
  · rw [if_pos he]
    refine (shut_err h p he).mono ?_
    rintro e w' ⟨h1, rfl⟩
    exact ⟨h1, WPost.same h (Mods.refl [] _) (by simp)⟩
end Go.Proofs.YtlgoeipgmjcboaaGreatDoor
namespace Go.Proofs.YtlgoeipgmjcboaaGreatDoor
open Go.RowKit Me

theorem tabs_mods {w w' : World} (h : Mods [] w w') (hT : Lib.Utf8Tabs 4 5 w) : Lib.Utf8Tabs 4 5 w' := tabs_keep (h.toBelow (by simp)) hT

/-- A writer that was made since w0, and nothing that was there ahead has changed since. -/
def OwnW (T : TypeId) (w0 w : World) (a : Nat) (S : WSt) : Prop := Mods [] w0 w ∧ ∃ vb vo, IsW T w a S vb vo ∧ ∀ k ∈ foot a vb vo, w0.heap.size ≤ k
theorem OwnW.next {T : TypeId} {w0 w w' : World} {a : Nat} {S' : WSt} {vb vo : Value} (hm : Mods [] w0 w) (hk : ∀ k ∈ foot a vb vo, w0.heap.size ≤ k) (h : WPost T w a vb vo S' w') : OwnW T w0 w' a S' := by
  obtain ⟨vb', vo', h1, h2, h3⟩ := h
  refine ⟨hm.trans h2 (fun b hb => Or.inr (hk b hb)), vb', vo', h1, fun k hh => ?_⟩
  rcases h3 k hh with h | h
  · exact hk k h
  · exact Nat.le_trans hm.size h
theorem OwnW.still {T : TypeId} {w0 w w' : World} {a : Nat} {S : WSt} (h : OwnW T w0 w a S) (hm : Mods [] w w') : OwnW T w0 w' a S := by
  obtain ⟨h0, vb, vo, h1, hk⟩ := h
  exact ⟨h0.trans hm (fun _ h => Or.inl h), vb, vo, h1.mods hm (fun _ _ h => by cases h), hk⟩
end Go.Proofs.YtlgoeipgmjcboaaGreatDoor
