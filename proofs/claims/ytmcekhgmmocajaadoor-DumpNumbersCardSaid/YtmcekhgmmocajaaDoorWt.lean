/- The walks of the writer's methods, on: Text, Open, Shut. -/
import Derived.Test.YtmcekhgmmocajaaDoorWs
namespace Go.Proofs.YtmcekhgmmocajaaDoor
open Go.RowKit Me

theorem IsW.alloc {T : TypeId} {w : World} {a : Nat} {S : WSt} {vb vo : Value} (h : IsW T w a S vb vo) (o : Obj) : IsW T (w.alloc o) a S vb vo := h.mods ((Mods.refl [] _).alloc o) (fun _ _ h => by cases h)
/-- The cells of a writer, in a world of which it is known what an append turned. -/
theorem behind_grow {T : TypeId} {w w1 : World} {a : Nat} {S : WSt} {vb vo : Value} {row : Option Nat} (h : IsW T w a S vb vo) (hg : w.grownBy w1 row) (hr : row ≠ some a) :
    w1.heap[a]? = some (.cells #[.int .i64 (S.limit : Int), vb, vo, .int .i64 (S.err : Int)] T (0, 0)) ∧ w1.cell? ⟨a, 1, none⟩ = some vb ∧ w1.frozen? ⟨a, 1, none⟩ = false ∧ w1.cell? ⟨a, 2, none⟩ = some vo ∧ w1.frozen? ⟨a, 2, none⟩ = false := by
  have ha : w1.heap[a]? = _ := (hg.block a (Array.getElem?_eq_some_iff.1 h.cells).1 (fun e => hr e.symm)).trans h.cells
  obtain ⟨_, c1, c2, _, f1, f2, _⟩ := cell4 ha
  exact ⟨ha, c1, f1, c2, f2⟩

/-- A place has been put behind those of the parts that are open. -/
theorem IsW.push {T : TypeId} {W w1 : World} {a : Nat} {S : WSt} {vb vo v' : Value} {q : Nat} (h : IsW T W a S vb vo) (hT : T ≠ 5 ∧ T ≠ 3) (hg : W.grownBy w1 vo.ownBlock)
    (hown : w1.ownsRow 0 3 1 v' (S.opens.length + 1) (S.opens.map intV ++ [intV q])) (hat : v'.ownBlock = vo.ownBlock ∨ v'.ownBlock = some W.heap.size) (hq : q + 2 ≤ S.bytes.length) (hm : S.opens.length + 1 ≤ S.bytes.length) :
    IsW T (w1.setCell ⟨a, 2, none⟩ v') a { S with opens := S.opens ++ [q] } vb v' ∧ Mods (foot a vb vo) W (w1.setCell ⟨a, 2, none⟩ v') := by
  have hr := wrow h hT
  have ha := (behind_grow h hg hr.2.1).1
  have hva : v'.ownBlock ≠ some a := by
    rcases hat with e | e
    · rw [e]; exact hr.2.1
    · rw [e]
      have := (Array.getElem?_eq_some_iff.1 h.cells).1
      intro e'
      have := Option.some.inj e'
      omega
  refine ⟨⟨⟨h.wf.limit, h.wf.bytes, fun x hx => ?_, by simpa using hm, h.wf.err⟩, by rw [heap_setCell_same _ _ _ _ _ _ ha]; rfl, ?_, ?_⟩, ?_⟩
  · rcases List.mem_append.1 hx with hx | hx
    · exact h.wf.opens x hx
    · simp at hx
      subst hx
      exact hq
  · refine ownsRow_set (h.b.kept hg ?_) hr.1 v'
    by_cases e : vb.ownBlock = none
    · exact Or.inl e
    · refine Or.inr fun e2 => ?_
      obtain ⟨k, hk⟩ := Option.ne_none_iff_exists'.1 e
      exact hr.2.2 k hk (by rw [← e2]; exact hk)
  · have hx := ownsRow_set hown (a := ⟨a, 2, none⟩) hva v'
    simpa using hx
  · exact ((Mods.refl _ _).grown hg (fun b hb => Or.inl (mem_foot.2 (Or.inr (Or.inr hb))))).setCell (p := ⟨a, 2, none⟩) (Or.inl (mem_foot.2 (Or.inl rfl))) _

theorem src_at {P : Program} {tx e' : TypeId} (hk : P.underlying tx = some (.slice e')) (w : World) (xs : List Value) (t : TypeId) (k n : Nat) (hk2 : w.heap.size = k) (hn : xs.length = n) (h1 : ∀ u ∈ xs, u.oneCell' = true) : Src P 1 tx (.slice (some ⟨k, 0, none⟩) n n) n xs (w.alloc (.cells xs.toArray t)) := by
  subst hk2
  exact src_lit hk w xs t n hn h1
theorem size_set (w : World) (a : Addr) (v : Value) : (w.setCell a v).heap.size = w.heap.size := by simp [World.setCell]


theorem le_cells (n : Nat) (h : n ≤ 65535) : [Value.int .u8 ((n : Int) % 256), .int .u8 ((n : Int) / 256)] = (le n 2).map byteV := by
  simp only [le, List.map_cons, List.map_nil, byteV_mod]
  have : ((n / 256 : Nat) : Int) % 256 = (n : Int) / 256 := by omega
  rw [this]
theorem foot_step {a : Nat} {vb vo vb' : Value} {w : World} (hat : vb'.ownBlock = vb.ownBlock ∨ ∃ k, vb'.ownBlock = some k ∧ w.heap.size ≤ k) : ∀ b ∈ foot a vb' vo, b ∈ foot a vb vo ∨ w.heap.size ≤ b := by
  intro b hb
  rcases mem_foot.1 hb with rfl | hb | hb
  · exact Or.inl (mem_foot.2 (Or.inl rfl))
  · rcases hat with e | ⟨j, e, hj⟩
    · exact Or.inl (mem_foot.2 (Or.inr (Or.inl (by rw [← e]; exact hb))))
    · rw [e] at hb
      obtain rfl := Option.some.inj hb
      exact Or.inr hj
  · exact Or.inl (mem_foot.2 (Or.inr (Or.inr hb)))
theorem at_step {vb vb' v2 : Value} {w w1 : World} (hat : vb'.ownBlock = vb.ownBlock ∨ ∃ k, vb'.ownBlock = some k ∧ w.heap.size ≤ k) (h2 : v2.ownBlock = vb'.ownBlock ∨ v2.ownBlock = some w1.heap.size) (hs : w.heap.size ≤ w1.heap.size) :
    v2.ownBlock = vb.ownBlock ∨ ∃ k, v2.ownBlock = some k ∧ w.heap.size ≤ k := by
  rcases h2 with e | e
  · rw [e]; exact hat
  · exact Or.inr ⟨_, e, hs⟩

set_option maxRecDepth 100000 in
set_option maxHeartbeats 1000000 in
theorem text_fits {a : Nat} {S : WSt} {vb vo : Value} {w : World} (h : IsW 69 w a S vb vo) (s : ByteArray) (hT : Lib.Utf8Tabs 1 2 w) (he : S.err = 0) (h6 : s.size ≤ 65535) (hg : Tx.good s.data.toList = true) (hf : S.bytes.length + (2 + s.size) ≤ S.limit) :
    Calls Tryd.prog 19 #[.pointer (some ⟨a, 0, none⟩), .string s] w fun e w' => e = .returned (.tuple #[]) ∧ WPost 69 w a vb vo (S.add (le s.size 2 ++ s.data.toList)) w' := by
  have hl1 := h.wf.limit
  have hsz : S.bytes.length ≤ 100000000 := by omega
  obtain ⟨c0, c1, c2, c3, f1, f2, f3⟩ := cell4 h.cells
  rw [he] at c3
  have H := Lib.hid h
  have HE := Lib.hid he
  have HF := Lib.hid hf
  have HG := Lib.hid (good_is s true w (by unfold maxLen; omega) hT hg)
  clear h he hf hl1 hg hT c0 c1 c2 f1 f2 f3
  obtain ⟨i0, hi, hz0, hz1, hz2⟩ := info_parts info5
  go_enter Tryd.func19, Tryd.ntmps19
  go_wp2_with fail
  refine HG.out.mono ?_; rintro e w0 ⟨rfl, hb0⟩
  have H0 := Lib.hid (H.out.below hb0)
  have HB0 := Lib.hid hb0
  clear hb0 c3
  go_wp2_with fail
  refine (room_fits H0.out (2 + (s.size : Int)) (by omega) (by omega) HE.out (by have := HF.out; omega)).mono ?_; rintro e w1 ⟨rfl, k, rfl⟩
  obtain ⟨c0, c1, c2, c3, f1, f2, f3⟩ := cell4 (H0.out.drewN k).cells
  obtain ⟨A, c, hvb, hlc, hcm⟩ := ownsRow_slice H0.out.b
  subst hvb
  clear c0 c2 c3 f2 f3
  go_wp2_with (at_builtin; go_must (refine wpList_app _ rfl _ _ 22 22 rfl 0 5 i0 (.int .u8 0) 1 1 Tryd.underlying22 hi hz0 hz1 hz2 rfl _ _ _ rfl ((H0.out.drewN k).b.alloc _) _ 2 [.int .u8 ((s.size : Int) % 256), .int .u8 ((s.size : Int) / 256)] rfl ?c1 ?c2 ?c3 ?c4 ?_))
  case c1 => exact src_at Tryd.underlying22 (w0.drewN k) [.int .u8 ((s.size : Int) % 256), .int .u8 ((s.size : Int) / 256)] 5 _ 2 rfl rfl (by intro u hu; simp at hu; rcases hu with rfl | rfl <;> rfl)
  case c2 => unfold maxLen; omega
  case c3 => omega
  case c4 => exact Nat.zero_le _
  intro v' w1 hown hgrow hat2
  obtain ⟨_, d1, g1, _, _⟩ := behind_grow ((H0.out.drewN k).alloc _) hgrow (wrow (H0.out.alloc (.cells #[] 0)) (by decide)).1
  obtain ⟨A', c', rfl⟩ := own_ctor hown
  have hx := (((H0.out.drewN k).alloc _).app (by decide) hgrow hown (by simpa using hat2) (bs := le s.size 2) (le_cells _ h6) (by have := HF.out; rw [le_length]; omega))
  have HW1 := Lib.hid hx.1
  have HM1 := Lib.hid (((below_mods HB0.out).trans (((Mods.refl [] w0).drewN k).alloc _) (by simp)).mono (G := foot a (.slice A S.bytes.length c) vo) (by simp) |>.trans hx.2 (fun b hb => Or.inl hb))
  have HA1 : Hid ((Value.slice A' (S.bytes.length + 2) c').ownBlock = (Value.slice A S.bytes.length c).ownBlock ∨ ∃ k, (Value.slice A' (S.bytes.length + 2) c').ownBlock = some k ∧ w.heap.size ≤ k) := Lib.hid (by
    rcases hat2 with e | e
    · exact Or.inl e
    · exact Or.inr ⟨_, e, by have := HB0.out.size; simp; omega⟩)
  obtain ⟨e0, e1, e2, e3, k1, k2, k3⟩ := cell4 hx.1.cells
  have hlen2 : (S.add (le s.size 2)).bytes.length = S.bytes.length + 2 := by simp [WSt.add, le_length]
  have HL2 := Lib.hid hlen2
  clear hx hown hgrow hat2 c1 f1 e0 e2 e3 k2 k3 hlen2
  go_wp2_with (at_builtin; go_must (refine wpList_app _ rfl _ _ 22 9 rfl 0 5 i0 (.int .u8 0) 1 1 Tryd.underlying22 hi hz0 hz1 hz2 rfl _ _ _ rfl HW1.out.b _ s.size (byteCells s) rfl ?d1 ?d2 ?d3 ?d4 ?_))
  case d1 => exact Src.ofString _ Tryd.underlying9 s
  case d2 => have := HL2.out; unfold maxLen; omega
  case d3 => have := HL2.out; omega
  case d4 => exact Nat.zero_le _
  intro v2 w2 hown hgrow hat2
  obtain ⟨_, d2, g2, _, _⟩ := behind_grow HW1.out hgrow (wrow HW1.out (by decide)).1
  obtain ⟨A3, c3', rfl⟩ := own_ctor hown
  have hx := (HW1.out.app (by decide) hgrow hown (by simpa [size_set] using hat2) (bs := s.data.toList) rfl (by have h1 := HF.out; have h2 := HL2.out; rw [size_list]; simp only [WSt.add] at h2 ⊢; omega))
  rw [add_add] at hx
  have HW2 := Lib.hid hx.1
  have HM2 := Lib.hid (HM1.out.trans hx.2 (foot_step HA1.out))
  have HA2 := Lib.hid (at_step HA1.out hat2 (by have := HM1.out.size; rwa [size_set] at this))
  clear hx hown hgrow hat2 e1 k1
  go_wp2_with fail
  go_end0
  exact ⟨rfl, WPost.of_b HW2.out HM2.out HA2.out⟩

set_option maxHeartbeats 400000 in
/-- Text. -/
theorem text_any {a : Nat} {S : WSt} {vb vo : Value} {w : World} (h : IsW 69 w a S vb vo) (s : ByteArray) (hs : s.size ≤ maxLen) (hT : Lib.Utf8Tabs 1 2 w) :
    Calls Tryd.prog 19 #[.pointer (some ⟨a, 0, none⟩), .string s] w fun e w' => e = .returned (.tuple #[]) ∧ WPost 69 w a vb vo (S.text s.data.toList) w' := by
  have hsm := hs
  unfold maxLen at hsm
  unfold WSt.text
  obtain ⟨c0, c1, c2, c3, f1, f2, f3⟩ := cell4 h.cells
  by_cases he : S.err = 0
  · rw [if_neg (by omega)]
    rw [he] at c3
    by_cases h6 : 65535 < s.size
    · rw [if_pos (by rw [size_list]; exact h6)]
      have HW := Lib.hid (h.wrong (by decide) 13 (by omega))
      have HM := Lib.hid ((Mods.refl [a] w).setCell (p := ⟨a, 3, none⟩) (Or.inl (by simp)) (.int .i64 ((13 : Nat) : Int)))
      clear h he hT hs c0 c1 c2 f1 f2
      go_enter Tryd.func19, Tryd.ntmps19
      go_wp2_with fail
      refine bodyPost_ret (results_none rfl _ _ _) rfl ?_
      exact ⟨rfl, WPost.same HW.out HM.out (by simp [foot])⟩
    · rw [if_neg (by rw [size_list]; exact h6)]
      by_cases hg : Tx.good s.data.toList = false
      · rw [if_pos hg]
        have HG := Lib.hid (good_is s false w hs hT hg)
        have H := Lib.hid h
        clear h he hT hs c0 c1 c2 f1 f2 hg f3
        go_enter Tryd.func19, Tryd.ntmps19
        go_wp2_with fail
        refine HG.out.mono ?_; rintro e w0 ⟨rfl, hb0⟩
        have HB0 := Lib.hid (below_mods hb0)
        have h1 := H.out.below hb0
        obtain ⟨_, _, _, d3, _, _, f3⟩ := cell4 h1.cells
        have HW := Lib.hid (h1.wrong (by decide) 12 (by omega))
        clear h1 hb0 c3
        go_wp2_with fail
        refine bodyPost_ret (results_none rfl _ _ _) rfl ?_
        exact ⟨rfl, WPost.same HW.out ((HB0.out.mono (G := [a]) (by simp)).setCell (p := ⟨a, 3, none⟩) (Or.inl (by simp)) _) (by simp [foot])⟩
      · rw [if_neg hg]
        have hg' : Tx.good s.data.toList = true := by simpa using hg
        have hln : (le s.data.toList.length 2 ++ s.data.toList).length = 2 + s.size := by rw [List.length_append, le_length, size_list]
        by_cases hf : S.limit < S.bytes.length + (2 + s.size)
        · rw [WSt.put_full _ he (by rw [hln]; exact hf)]
          have HG := Lib.hid (good_is s true w hs hT hg')
          have H := Lib.hid h
          have HE := Lib.hid he
          have HF := Lib.hid hf
          clear h he hT hs c0 c1 c2 f1 f2 hg hg' f3 hln hf
          go_enter Tryd.func19, Tryd.ntmps19
          go_wp2_with fail
          refine HG.out.mono ?_; rintro e w0 ⟨rfl, hb0⟩
          have HB0 := Lib.hid (below_mods hb0)
          have H1 := Lib.hid (H.out.below hb0)
          clear hb0 c3
          go_wp2_with fail
          refine (room_full H1.out (by decide) (2 + (s.size : Int)) (by omega) (by omega) HE.out (by have := HF.out; omega)).mono ?_; rintro e w1 ⟨rfl, hw, hm⟩
          have HW := Lib.hid hw
          have HM := Lib.hid (HB0.out.mono (G := [a]) (by simp) |>.trans hm (fun b hb => Or.inl hb))
          clear hw hm
          go_wp2_with fail
          go_end0
          exact ⟨rfl, WPost.same HW.out HM.out (by simp [foot])⟩
        · rw [WSt.put_fits _ he (by rw [hln]; exact hf), size_list]
          exact text_fits h s hT he (by omega) hg' (by omega)
  · rw [if_pos he]
    have he' : ((S.err : Int) != 0) = true := by rw [bne_iff_ne]; omega
    have H := Lib.hid h
    clear h he hT hs c0 c1 c2 f1 f2 f3
    go_enter Tryd.func19, Tryd.ntmps19
    go_wp2_with fail
    refine bodyPost_ret (results_none rfl _ _ _) rfl ?_
    exact ⟨rfl, WPost.same H.out (Mods.refl [] _) (by simp)⟩
end Go.Proofs.YtmcekhgmmocajaaDoor
