/- tells, refuse. | refuse. -/
import Derived.Test.YtlgoeipgmjcboaaGreatDoorJd
import Derived.Deep.RegionHeld
namespace Go.Proofs.YtlgoeipgmjcboaaGreatDoor
open Go.RowKit Me

namespace Me
section
variable {P : Program} {ops : Array Oper} {o : Oper} {a : Act} {w : World} {K : Act → World → Prop} {Q : Exit → Act → World → Prop} {E : Prop}
theorem step_load_row (hgd : o.guard = none) (ty : TypeId) (x : Operand) (ho : o.op = .load ty x) (g : Nat) (hx : a.eval x = .pointer (some ⟨g, 0, none⟩)) (t : TypeId) (cs : Array Value) (fr : Nat × Nat) (d : TypeDesc) (hg : w.heap[g]? = some (.cells cs t fr))
    (hu : P.underlying ty = some d) (hd : (match d with | .struct _ | .array _ _ => true | _ => false) = true) (hi : (P.info? ty).map (·.size) = some cs.size) (h : K (a.put o.dst (.agg cs)) w) :
    if Region.wanted o (yielded ops a.tmps) = true then Oper.wp P o a w K Q else E := by
  rw [if_pos (by simp [Region.wanted, hgd])]
  exact wp_load_row ty x ho g hx t cs fr d hg hu hd hi h
theorem step_build (hgd : o.guard = none) (t : TypeId) (parts : Array (Nat × Operand)) (ho : o.op = .build t parts) (cells : Array Value) (hf : P.built t (parts.map fun (i, x) => (i, a.eval x)).toList = some cells) (h : K (a.put o.dst (.agg cells)) w) :
    if Region.wanted o (yielded ops a.tmps) = true then Oper.wp P o a w K Q else E := by
  rw [if_pos (by simp [Region.wanted, hgd])]
  exact wp_build t parts ho (by rw [hf]; rfl) (by rw [hf]; exact h)
theorem step_buildSlice (hgd : o.guard = none) (t : TypeId) (len : Nat) (parts : Array (Nat × Operand)) (ho : o.op = .buildSlice t len parts) (parts' : Array (Nat × Value)) (hp : (parts.map fun (i, x) => (i, a.eval x)) = parts') (v : Value) (w' : World) (hf : (Instr.buildSlice t len parts').run P w = .ok v w') (h : K (a.put o.dst v) w') :
    if Region.wanted o (yielded ops a.tmps) = true then Oper.wp P o a w K Q else E := by
  rw [if_pos (by simp [Region.wanted, hgd])]
  unfold Oper.wp execOp
  subst hp
  simp only [ho, Sem.run_bind, hf, Result.andThen_ok]
  exact h
end
end Me
theorem St.less {w0 w : World} {F0 K : List Nat} {b r : Nat} {R : RelP} {U : Nat → Nat} {G : Gh} {L : List OutV} (h : St w0 F0 (b :: K) r R U G L w) : St w0 F0 K r R U G L w := by
  obtain ⟨vo, h1, h2, h3, h4⟩ := h.ex
  exact ⟨⟨vo, h1, h2, h3, fun k hk => h4 k (List.mem_cons_of_mem _ hk)⟩, h.mods, h.sub⟩
theorem out_one (n : Int) (m : MsgP) (vn vq vd : Value) (h : PlainM vn vq vd) : ∀ u ∈ outC n m vn vq vd, u.oneCell' = true := by
  intro u hu
  rcases List.mem_cons.1 hu with rfl | hu
  · rfl
  · have := msg_one m vn vq vd h
    rw [Array.all_eq_true_iff_forall_mem] at this
    exact this u (by simpa using hu)
theorem OwnM.plain {w : World} {base : Nat} {m : MsgP} {vn vq vd : Value} (h : OwnM w base m vn vq vd) : PlainM vn vq vd := ⟨plain_own h.names, plain_own h.qids, plain_own h.data⟩
theorem built49 (n : Int) (m : MsgP) (vn vq vd : Value) : Tryz.prog.built 49 [(0, .int .i64 n), (1, .agg (msgC m vn vq vd).toArray)] = some (outC n m vn vq vd).toArray := by kernel_rfl
theorem src_out {w : World} (n : Int) (m : MsgP) (vn vq vd : Value) (h : PlainM vn vq vd) : Src Tryz.prog 37 33 (.slice (some ⟨w.heap.size, 0, none⟩) 1 1) 1 (outC n m vn vq vd) (w.alloc (.cells (outC n m vn vq vd).toArray 49)) :=
  Src.ofSlice _ Tryz.underlying33 _ _ _ _ rfl (cells_new _ _ _) (out_one n m vn vq vd h)
set_option maxHeartbeats 2000000 in
set_option maxRecDepth 100000 in
theorem tells_any {w0 w : World} {F0 K : List Nat} {r : Nat} {R : RelP} {U : Nat → Nat} {G : Gh} {L : List OutV} (h : St w0 F0 K r R U G L w) (n : Int) (m : MsgP) (hl : m.names.length ≤ 100000000 ∧ m.qids.length ≤ 100000000 ∧ m.data.length ≤ 100000000)
    {vn vq vd : Value} (hr : MsgR w m vn vq vd) (hp : PlainM vn vq vd) (hL : L.length ≤ 1000) :
    Calls Tryz.prog 45 #[.pointer (some ⟨r, 0, none⟩), .int .i64 n, .agg (msgC m vn vq vd).toArray] w fun e w' => e = .returned (.tuple #[]) ∧ ∃ o : OutV, o.c = n ∧ o.m = m ∧ St w0 F0 K r R U G (L ++ [o]) w' ∧ ∀ k ∈ K, w'.heap[k]? = w.heap[k]? := by
  have hA := (h.alloc (.cells (msgC m vn vq vd).toArray 47)).drew
  have hmA := ((Mods.refl [] w).alloc (.cells (msgC m vn vq vd).toArray 47)).drew
  have hrow : ((w.alloc (.cells (msgC m vn vq vd).toArray 47)).drew).heap[w.heap.size]? = some (.cells (msgC m vn vq vd).toArray 47 (0, 0)) := heap_alloc_new w _
  have HRW := Lib.hid hrow
  have HPL := Lib.hid hp
  have HO := Lib.hid (own_any m hl _ (hr.mods hmA) hp)
  obtain ⟨vo, hrel, hout, hF, hK⟩ := hA.ex
  obtain ⟨A, c, rfl, -⟩ := ownsRow_slice hout.row
  have c6 : ((w.alloc (.cells (msgC m vn vq vd).toArray 47)).drew).cell? ⟨r, 6, none⟩ = some (.slice A L.length c) := hrel.cell 6
  have HREL := Lib.hid hrel
  have HOUT := Lib.hid hout
  have HF := Lib.hid hF
  have HK := Lib.hid hK
  have HMO := Lib.hid hA.mods
  have HSU := Lib.hid hA.sub
  obtain ⟨i1, hi, hz0, hz1, hz2⟩ := info_parts info49
  have HKO : Hid (∀ k ∈ K, ((w.alloc (.cells (msgC m vn vq vd).toArray 47)).drew).heap[k]? = w.heap[k]?) := Lib.hid (fun k hk => alloc_old _ (by
    obtain ⟨_, _, _, _, h4⟩ := h.ex
    exact (h4 k hk).1))
  clear h hA hmA hrow hr hp hrel hout hF hK
  go_enter Tryz.func45, Tryz.ntmps45
  go_wp2_with fail
  generalize w.alloc (.cells (msgC m vn vq vd).toArray 47) = wA at *
  have hrg : wA.drew.rangeAt w.heap.size 0 (msgC m vn vq vd) := fun j v hj => by
    rw [cell_of_row _ _ _ _ _ _ HRW.out]
    simpa using hj
  refine wp_region_held_drew (S := fun W => W.rangeAt w.heap.size 0 (msgC m vn vq vd)) (by kernel_rfl) hrg (fun hHeld => ?_)
  have hS0 := hHeld
  refine wpAnyH_take (i := 0) (v := ?_) rfl (by kernel_rfl) (by kernel_rfl) (by kernel_rfl) (fun _ _ _ h => h) (Or.inl ⟨by rfl, ?_⟩) hHeld ?_
  rotate_left
  · intro w hSw
    first | (go_simp; done) | (go_simp; with_reducible rfl)
  try simp only [Act.put, List.setIfInBounds_toArray]
  refine wpAnyH_take (i := 1) (v := ?_) rfl (by kernel_rfl) (by kernel_rfl) (by kernel_rfl) (fun _ _ _ h => h) (Or.inl ⟨by rfl, ?_⟩) hHeld ?_
  rotate_left
  · intro w hSw
    first | (go_simp; done) | (go_simp; with_reducible rfl)
  try simp only [Act.put]
  refine wpAnyH_take (i := 2) (v := ?_) rfl (by kernel_rfl) (by kernel_rfl) (by kernel_rfl) (fun _ _ _ h => h) (Or.inl ⟨by rfl, ?_⟩) hHeld ?_
  rotate_left
  · intro w hSw
    first | (go_simp; done) | (go_simp; with_reducible rfl)
  try simp only [Act.put]
  refine wpAnyH_take (i := 3) (v := ?_) rfl (by kernel_rfl) (by kernel_rfl) (by kernel_rfl) (fun _ _ _ h => h) (Or.inl ⟨by rfl, ?_⟩) hHeld ?_
  rotate_left
  · intro w hSw
    first | (go_simp; done) | (go_simp; with_reducible rfl)
  try simp only [Act.put]
  refine wpAnyH_take (i := 5) (v := ?_) rfl (by kernel_rfl) (by kernel_rfl) (by kernel_rfl) (fun _ _ _ h => h) (Or.inl ⟨by rfl, ?_⟩) hHeld ?_
  rotate_left
  · intro w hSw
    first | (go_simp; done) | (go_simp; with_reducible rfl)
  try simp only [Act.put]
  refine wpAnyH_take (i := 6) (v := .agg (msgC m vn vq vd).toArray) rfl (by kernel_rfl) (by kernel_rfl) (by kernel_rfl) (fun _ _ _ h => h) ?hy hHeld ?hz
  case hy => exact yieldsIf_load_mid rfl 47 _ rfl w.heap.size 0 rfl (msgC m vn vq vd) _ (fun _ h => h) Tryz.underlying47 rfl (info47 m vn vq vd)
  try simp only [Act.put]
  refine wpAnyH_ready (rs := [4, 7]) (by kernel_rfl) (by simp) ?_
  refine AllReadyH.cons rfl (fun K2 hK => ?_) ?_
  · go_simp
    refine hK.out _ _ hS0 (fun hHeld => ?_)
    clear hK K2
    refine wpAnyH_ready (rs := [7]) (by kernel_rfl) (by simp) ?_
    refine AllReadyH.cons rfl (fun K2 hK => ?_) ?_
    · go_simp
      refine HO.out.mono ?_; rintro e w1 ⟨vn', vq', vd', rfl, ho1, hm1⟩
      have HO1 := Lib.hid ho1
      have HM1 := Lib.hid hm1
      have hS1 : w1.rangeAt w.heap.size 0 (msgC m vn vq vd) := range_mods hrg hm1 (by simp)
      have c6b : w1.cell? ⟨r, 6, none⟩ = some (.slice A L.length c) := (HREL.out.still hm1).cell 6
      clear ho1 hm1
      refine hK.out _ _ hS1 (fun hHeld => ?_)
      clear hK K2
      refine wpAnyH_ready (rs := [8]) (by kernel_rfl) (by simp) ?_
      refine AllReadyH.cons rfl (fun K2 hK => ?_) ?_
      · refine step_build rfl 49 _ rfl (outC n m vn' vq' vd').toArray (by kernel_rfl) ?_
        try go_simp
        refine hK.out _ _ hS1 (fun hHeld => ?_)
        clear hK K2
        refine wpAnyH_ready (rs := [9]) (by kernel_rfl) (by simp) ?_
        refine AllReadyH.cons rfl (fun K2 hK => ?_) ?_
        · refine step_buildSlice rfl 33 1 _ rfl #[(0, .agg (outC n m vn' vq' vd').toArray)] (by kernel_rfl) _ _ (slice33 n m vn' vq' vd' w1) ?_
          try go_simp
          have hmB := (Mods.refl [] w1).alloc (.cells (outC n m vn' vq' vd').toArray 49)
          have hS2 : (w1.alloc (.cells (outC n m vn' vq' vd').toArray 49)).rangeAt w.heap.size 0 (msgC m vn vq vd) := range_mods hS1 hmB (by simp)
          have c6c : (w1.alloc (.cells (outC n m vn' vq' vd').toArray 49)).cell? ⟨r, 6, none⟩ = some (.slice A L.length c) := ((HREL.out.still HM1.out).still hmB).cell 6
          refine hK.out _ _ hS2 (fun hHeld => ?_)
          clear hK K2
          refine wpAnyH_ready (rs := [10]) (by kernel_rfl) (by simp) ?_
          refine AllReadyH.cons rfl (fun K2 hK => ?_) ?_
          · have hrel2 := (HREL.out.still HM1.out).still hmB
            have hout2 := (HOUT.out.modsX HM1.out (by simp)).modsX hmB (by simp)
            refine step_app rfl _ _ 33 33 rfl w0.heap.size 49 i1 _ 37 352 Tryz.underlying33 hi hz0 hz1 hz2 rfl (.slice A L.length c) L.length (L.flatMap OutV.cells) rfl hout2.row (.slice (some ⟨w1.heap.size, 0, none⟩) 1 1) 1 (outC n m vn' vq' vd') rfl (src_out n m vn' vq' vd' HO1.out.plain) (by unfold maxLen; omega) (by omega) (by have h1 := HMO.out.size; have h2 := HM1.out.size; simp; omega) ?_
            intro v' w3 hown hgrow hat
            have hm3 : Mods (Value.slice A L.length c).ownBlock.toList (w1.alloc (.cells (outC n m vn' vq' vd').toArray 49)) w3 := (Mods.refl _ _).grown hgrow (fun b hb => Or.inl (by simp [hb]))
            have hrel3 := hrel2.mods hm3 (fun k hk hk' => HF.out k hk (outB_mem.2 (Or.inl (by simpa using hk'))))
            have hS3 : w3.rangeAt w.heap.size 0 (msgC m vn vq vd) := range_mods hS2 hm3 (fun hk' => (HK.out w.heap.size (by simp)).2.2 (outB_mem.2 (Or.inl (by simpa using hk'))))
            have f6 := hrel3.frozen 6
            have c6' := hrel3.cell 6
            simp only [List.getElem?_toArray, List.getElem?_cons_zero, List.getElem?_cons_succ] at c6'
            obtain ⟨A3, c3, rfl⟩ := own_ctor hown
            try go_simp
            refine hK.out _ _ hS3 (fun hHeld => ?_)
            clear hK K2
            refine wpAnyH_take (i := 11) (v := ?_) rfl (by kernel_rfl) (by kernel_rfl) (by kernel_rfl) (fun _ _ _ h => h) (Or.inl ⟨by rfl, ?_⟩) hHeld ?_
            rotate_left
            · intro w hSw
              first | (go_simp; done) | (go_simp; with_reducible rfl)
            try simp only [Act.put, List.setIfInBounds_toArray]
            refine wpAnyH_take (i := 12) (v := ?_) rfl (by kernel_rfl) (by kernel_rfl) (by kernel_rfl) (fun _ _ _ h => h) (Or.inl ⟨by rfl, ?_⟩) hHeld ?_
            rotate_left
            · intro w hSw
              first | (go_simp; done) | (go_simp; with_reducible rfl)
            try simp only [Act.put]
            refine wpAnyH_ready (rs := [13]) (by kernel_rfl) (by simp) ?_
            refine AllReadyH.cons rfl (fun K2 hK => ?_) ?_
            · go_simp
              have hS4 : (w3.setCell ⟨r, 6, none⟩ (.slice A3 (L.length + 1) c3)).rangeAt w.heap.size 0 (msgC m vn vq vd) := range_mods hS3 ((Mods.refl [r] w3).setCell (p := ⟨r, 6, none⟩) (Or.inl (by simp)) _) (by
                intro hk'
                simp at hk'
                exact (HK.out w.heap.size (by simp)).2.1 (hk' ▸ HREL.out.here.1))
              refine hK.out _ _ hS4 (fun hHeld => ?_)
              clear hK K2
              refine wpAnyH_done (by kernel_rfl) ?_ _
              go_end0
              have hh := St.out (o := ⟨n, m, vn', vq', vd'⟩) (K := w.heap.size :: K) hrel2 hout2 HF.out (fun k hk => ⟨Nat.lt_of_lt_of_le (HK.out k hk).1 (Nat.le_trans HM1.out.size hmB.size), (HK.out k hk).2⟩) ((HMO.out.trans HM1.out (by simp)).trans hmB (by simp)) HSU.out (HO1.out.modsX hmB (by simp)) HMO.out.size (Nat.le_trans HM1.out.size hmB.size)
                (fun k hk => by
                  rcases hk with hk | hk | hk
                  · exact HREL.out.lt k hk
                  · exact (HK.out k hk).1
                  · exact (HOUT.out.lt k hk).2) hown hgrow hat
              refine ⟨rfl, ⟨n, m, vn', vq', vd'⟩, rfl, rfl, hh.1.less, fun k hk => ?_⟩
              rw [hh.2 k (List.mem_cons_of_mem _ hk), hmB.block k (Nat.lt_of_lt_of_le (HK.out k (List.mem_cons_of_mem _ hk)).1 HM1.out.size) (by simp), HM1.out.block k (HK.out k (List.mem_cons_of_mem _ hk)).1 (by simp)]
              exact HKO.out k hk
            exact AllReadyH.nil
          exact AllReadyH.nil
        exact AllReadyH.nil
      exact AllReadyH.nil
    exact AllReadyH.nil
  refine AllReadyH.cons rfl (fun K2 hK => ?_) ?_
  · go_simp
    refine HO.out.mono ?_; rintro e w1 ⟨vn', vq', vd', rfl, ho1, hm1⟩
    have HO1 := Lib.hid ho1
    have HM1 := Lib.hid hm1
    have hS1 : w1.rangeAt w.heap.size 0 (msgC m vn vq vd) := range_mods hrg hm1 (by simp)
    have c6b : w1.cell? ⟨r, 6, none⟩ = some (.slice A L.length c) := (HREL.out.still hm1).cell 6
    clear ho1 hm1
    refine hK.out _ _ hS1 (fun hHeld => ?_)
    clear hK K2
    refine wpAnyH_ready (rs := [4, 8]) (by kernel_rfl) (by simp) ?_
    refine AllReadyH.cons rfl (fun K2 hK => ?_) ?_
    · go_simp
      refine hK.out _ _ hS1 (fun hHeld => ?_)
      clear hK K2
      refine wpAnyH_ready (rs := [8]) (by kernel_rfl) (by simp) ?_
      refine AllReadyH.cons rfl (fun K2 hK => ?_) ?_
      · refine step_build rfl 49 _ rfl (outC n m vn' vq' vd').toArray (by kernel_rfl) ?_
        try go_simp
        refine hK.out _ _ hS1 (fun hHeld => ?_)
        clear hK K2
        refine wpAnyH_ready (rs := [9]) (by kernel_rfl) (by simp) ?_
        refine AllReadyH.cons rfl (fun K2 hK => ?_) ?_
        · refine step_buildSlice rfl 33 1 _ rfl #[(0, .agg (outC n m vn' vq' vd').toArray)] (by kernel_rfl) _ _ (slice33 n m vn' vq' vd' w1) ?_
          try go_simp
          have hmB := (Mods.refl [] w1).alloc (.cells (outC n m vn' vq' vd').toArray 49)
          have hS2 : (w1.alloc (.cells (outC n m vn' vq' vd').toArray 49)).rangeAt w.heap.size 0 (msgC m vn vq vd) := range_mods hS1 hmB (by simp)
          have c6c : (w1.alloc (.cells (outC n m vn' vq' vd').toArray 49)).cell? ⟨r, 6, none⟩ = some (.slice A L.length c) := ((HREL.out.still HM1.out).still hmB).cell 6
          refine hK.out _ _ hS2 (fun hHeld => ?_)
          clear hK K2
          refine wpAnyH_ready (rs := [10]) (by kernel_rfl) (by simp) ?_
          refine AllReadyH.cons rfl (fun K2 hK => ?_) ?_
          · have hrel2 := (HREL.out.still HM1.out).still hmB
            have hout2 := (HOUT.out.modsX HM1.out (by simp)).modsX hmB (by simp)
            refine step_app rfl _ _ 33 33 rfl w0.heap.size 49 i1 _ 37 352 Tryz.underlying33 hi hz0 hz1 hz2 rfl (.slice A L.length c) L.length (L.flatMap OutV.cells) rfl hout2.row (.slice (some ⟨w1.heap.size, 0, none⟩) 1 1) 1 (outC n m vn' vq' vd') rfl (src_out n m vn' vq' vd' HO1.out.plain) (by unfold maxLen; omega) (by omega) (by have h1 := HMO.out.size; have h2 := HM1.out.size; simp; omega) ?_
            intro v' w3 hown hgrow hat
            have hm3 : Mods (Value.slice A L.length c).ownBlock.toList (w1.alloc (.cells (outC n m vn' vq' vd').toArray 49)) w3 := (Mods.refl _ _).grown hgrow (fun b hb => Or.inl (by simp [hb]))
            have hrel3 := hrel2.mods hm3 (fun k hk hk' => HF.out k hk (outB_mem.2 (Or.inl (by simpa using hk'))))
            have hS3 : w3.rangeAt w.heap.size 0 (msgC m vn vq vd) := range_mods hS2 hm3 (fun hk' => (HK.out w.heap.size (by simp)).2.2 (outB_mem.2 (Or.inl (by simpa using hk'))))
            have f6 := hrel3.frozen 6
            have c6' := hrel3.cell 6
            simp only [List.getElem?_toArray, List.getElem?_cons_zero, List.getElem?_cons_succ] at c6'
            obtain ⟨A3, c3, rfl⟩ := own_ctor hown
            try go_simp
            refine hK.out _ _ hS3 (fun hHeld => ?_)
            clear hK K2
            refine wpAnyH_take (i := 11) (v := ?_) rfl (by kernel_rfl) (by kernel_rfl) (by kernel_rfl) (fun _ _ _ h => h) (Or.inl ⟨by rfl, ?_⟩) hHeld ?_
            rotate_left
            · intro w hSw
              first | (go_simp; done) | (go_simp; with_reducible rfl)
            try simp only [Act.put, List.setIfInBounds_toArray]
            refine wpAnyH_take (i := 12) (v := ?_) rfl (by kernel_rfl) (by kernel_rfl) (by kernel_rfl) (fun _ _ _ h => h) (Or.inl ⟨by rfl, ?_⟩) hHeld ?_
            rotate_left
            · intro w hSw
              first | (go_simp; done) | (go_simp; with_reducible rfl)
            try simp only [Act.put]
            refine wpAnyH_ready (rs := [13]) (by kernel_rfl) (by simp) ?_
            refine AllReadyH.cons rfl (fun K2 hK => ?_) ?_
            · go_simp
              have hS4 : (w3.setCell ⟨r, 6, none⟩ (.slice A3 (L.length + 1) c3)).rangeAt w.heap.size 0 (msgC m vn vq vd) := range_mods hS3 ((Mods.refl [r] w3).setCell (p := ⟨r, 6, none⟩) (Or.inl (by simp)) _) (by
                intro hk'
                simp at hk'
                exact (HK.out w.heap.size (by simp)).2.1 (hk' ▸ HREL.out.here.1))
              refine hK.out _ _ hS4 (fun hHeld => ?_)
              clear hK K2
              refine wpAnyH_done (by kernel_rfl) ?_ _
              go_end0
              have hh := St.out (o := ⟨n, m, vn', vq', vd'⟩) (K := w.heap.size :: K) hrel2 hout2 HF.out (fun k hk => ⟨Nat.lt_of_lt_of_le (HK.out k hk).1 (Nat.le_trans HM1.out.size hmB.size), (HK.out k hk).2⟩) ((HMO.out.trans HM1.out (by simp)).trans hmB (by simp)) HSU.out (HO1.out.modsX hmB (by simp)) HMO.out.size (Nat.le_trans HM1.out.size hmB.size)
                (fun k hk => by
                  rcases hk with hk | hk | hk
                  · exact HREL.out.lt k hk
                  · exact (HK.out k hk).1
                  · exact (HOUT.out.lt k hk).2) hown hgrow hat
              refine ⟨rfl, ⟨n, m, vn', vq', vd'⟩, rfl, rfl, hh.1.less, fun k hk => ?_⟩
              rw [hh.2 k (List.mem_cons_of_mem _ hk), hmB.block k (Nat.lt_of_lt_of_le (HK.out k (List.mem_cons_of_mem _ hk)).1 HM1.out.size) (by simp), HM1.out.block k (HK.out k (List.mem_cons_of_mem _ hk)).1 (by simp)]
              exact HKO.out k hk
            exact AllReadyH.nil
          exact AllReadyH.nil
        exact AllReadyH.nil
      exact AllReadyH.nil
    refine AllReadyH.cons rfl (fun K2 hK => ?_) ?_
    · refine step_build rfl 49 _ rfl (outC n m vn' vq' vd').toArray (by kernel_rfl) ?_
      try go_simp
      refine hK.out _ _ hS1 (fun hHeld => ?_)
      clear hK K2
      refine wpAnyH_ready (rs := [4, 9]) (by kernel_rfl) (by simp) ?_
      refine AllReadyH.cons rfl (fun K2 hK => ?_) ?_
      · go_simp
        refine hK.out _ _ hS1 (fun hHeld => ?_)
        clear hK K2
        refine wpAnyH_ready (rs := [9]) (by kernel_rfl) (by simp) ?_
        refine AllReadyH.cons rfl (fun K2 hK => ?_) ?_
        · refine step_buildSlice rfl 33 1 _ rfl #[(0, .agg (outC n m vn' vq' vd').toArray)] (by kernel_rfl) _ _ (slice33 n m vn' vq' vd' w1) ?_
          try go_simp
          have hmB := (Mods.refl [] w1).alloc (.cells (outC n m vn' vq' vd').toArray 49)
          have hS2 : (w1.alloc (.cells (outC n m vn' vq' vd').toArray 49)).rangeAt w.heap.size 0 (msgC m vn vq vd) := range_mods hS1 hmB (by simp)
          have c6c : (w1.alloc (.cells (outC n m vn' vq' vd').toArray 49)).cell? ⟨r, 6, none⟩ = some (.slice A L.length c) := ((HREL.out.still HM1.out).still hmB).cell 6
          refine hK.out _ _ hS2 (fun hHeld => ?_)
          clear hK K2
          refine wpAnyH_ready (rs := [10]) (by kernel_rfl) (by simp) ?_
          refine AllReadyH.cons rfl (fun K2 hK => ?_) ?_
          · have hrel2 := (HREL.out.still HM1.out).still hmB
            have hout2 := (HOUT.out.modsX HM1.out (by simp)).modsX hmB (by simp)
            refine step_app rfl _ _ 33 33 rfl w0.heap.size 49 i1 _ 37 352 Tryz.underlying33 hi hz0 hz1 hz2 rfl (.slice A L.length c) L.length (L.flatMap OutV.cells) rfl hout2.row (.slice (some ⟨w1.heap.size, 0, none⟩) 1 1) 1 (outC n m vn' vq' vd') rfl (src_out n m vn' vq' vd' HO1.out.plain) (by unfold maxLen; omega) (by omega) (by have h1 := HMO.out.size; have h2 := HM1.out.size; simp; omega) ?_
            intro v' w3 hown hgrow hat
            have hm3 : Mods (Value.slice A L.length c).ownBlock.toList (w1.alloc (.cells (outC n m vn' vq' vd').toArray 49)) w3 := (Mods.refl _ _).grown hgrow (fun b hb => Or.inl (by simp [hb]))
            have hrel3 := hrel2.mods hm3 (fun k hk hk' => HF.out k hk (outB_mem.2 (Or.inl (by simpa using hk'))))
            have hS3 : w3.rangeAt w.heap.size 0 (msgC m vn vq vd) := range_mods hS2 hm3 (fun hk' => (HK.out w.heap.size (by simp)).2.2 (outB_mem.2 (Or.inl (by simpa using hk'))))
            have f6 := hrel3.frozen 6
            have c6' := hrel3.cell 6
            simp only [List.getElem?_toArray, List.getElem?_cons_zero, List.getElem?_cons_succ] at c6'
            obtain ⟨A3, c3, rfl⟩ := own_ctor hown
            try go_simp
            refine hK.out _ _ hS3 (fun hHeld => ?_)
            clear hK K2
            refine wpAnyH_take (i := 11) (v := ?_) rfl (by kernel_rfl) (by kernel_rfl) (by kernel_rfl) (fun _ _ _ h => h) (Or.inl ⟨by rfl, ?_⟩) hHeld ?_
            rotate_left
            · intro w hSw
              first | (go_simp; done) | (go_simp; with_reducible rfl)
            try simp only [Act.put, List.setIfInBounds_toArray]
            refine wpAnyH_take (i := 12) (v := ?_) rfl (by kernel_rfl) (by kernel_rfl) (by kernel_rfl) (fun _ _ _ h => h) (Or.inl ⟨by rfl, ?_⟩) hHeld ?_
            rotate_left
            · intro w hSw
              first | (go_simp; done) | (go_simp; with_reducible rfl)
            try simp only [Act.put]
            refine wpAnyH_ready (rs := [13]) (by kernel_rfl) (by simp) ?_
            refine AllReadyH.cons rfl (fun K2 hK => ?_) ?_
            · go_simp
              have hS4 : (w3.setCell ⟨r, 6, none⟩ (.slice A3 (L.length + 1) c3)).rangeAt w.heap.size 0 (msgC m vn vq vd) := range_mods hS3 ((Mods.refl [r] w3).setCell (p := ⟨r, 6, none⟩) (Or.inl (by simp)) _) (by
                intro hk'
                simp at hk'
                exact (HK.out w.heap.size (by simp)).2.1 (hk' ▸ HREL.out.here.1))
              refine hK.out _ _ hS4 (fun hHeld => ?_)
              clear hK K2
              refine wpAnyH_done (by kernel_rfl) ?_ _
              go_end0
              have hh := St.out (o := ⟨n, m, vn', vq', vd'⟩) (K := w.heap.size :: K) hrel2 hout2 HF.out (fun k hk => ⟨Nat.lt_of_lt_of_le (HK.out k hk).1 (Nat.le_trans HM1.out.size hmB.size), (HK.out k hk).2⟩) ((HMO.out.trans HM1.out (by simp)).trans hmB (by simp)) HSU.out (HO1.out.modsX hmB (by simp)) HMO.out.size (Nat.le_trans HM1.out.size hmB.size)
                (fun k hk => by
                  rcases hk with hk | hk | hk
                  · exact HREL.out.lt k hk
                  · exact (HK.out k hk).1
                  · exact (HOUT.out.lt k hk).2) hown hgrow hat
              refine ⟨rfl, ⟨n, m, vn', vq', vd'⟩, rfl, rfl, hh.1.less, fun k hk => ?_⟩
              rw [hh.2 k (List.mem_cons_of_mem _ hk), hmB.block k (Nat.lt_of_lt_of_le (HK.out k (List.mem_cons_of_mem _ hk)).1 HM1.out.size) (by simp), HM1.out.block k (HK.out k (List.mem_cons_of_mem _ hk)).1 (by simp)]
              exact HKO.out k hk
            exact AllReadyH.nil
          exact AllReadyH.nil
        exact AllReadyH.nil
      refine AllReadyH.cons rfl (fun K2 hK => ?_) ?_
      · refine step_buildSlice rfl 33 1 _ rfl #[(0, .agg (outC n m vn' vq' vd').toArray)] (by kernel_rfl) _ _ (slice33 n m vn' vq' vd' w1) ?_
        try go_simp
        have hmB := (Mods.refl [] w1).alloc (.cells (outC n m vn' vq' vd').toArray 49)
        have hS2 : (w1.alloc (.cells (outC n m vn' vq' vd').toArray 49)).rangeAt w.heap.size 0 (msgC m vn vq vd) := range_mods hS1 hmB (by simp)
        have c6c : (w1.alloc (.cells (outC n m vn' vq' vd').toArray 49)).cell? ⟨r, 6, none⟩ = some (.slice A L.length c) := ((HREL.out.still HM1.out).still hmB).cell 6
        refine hK.out _ _ hS2 (fun hHeld => ?_)
        clear hK K2
        refine wpAnyH_ready (rs := [4]) (by kernel_rfl) (by simp) ?_
        refine AllReadyH.cons rfl (fun K2 hK => ?_) ?_
        · go_simp
          refine hK.out _ _ hS2 (fun hHeld => ?_)
          clear hK K2
          refine wpAnyH_ready (rs := [10]) (by kernel_rfl) (by simp) ?_
          refine AllReadyH.cons rfl (fun K2 hK => ?_) ?_
          · have hrel2 := (HREL.out.still HM1.out).still hmB
            have hout2 := (HOUT.out.modsX HM1.out (by simp)).modsX hmB (by simp)
            refine step_app rfl _ _ 33 33 rfl w0.heap.size 49 i1 _ 37 352 Tryz.underlying33 hi hz0 hz1 hz2 rfl (.slice A L.length c) L.length (L.flatMap OutV.cells) rfl hout2.row (.slice (some ⟨w1.heap.size, 0, none⟩) 1 1) 1 (outC n m vn' vq' vd') rfl (src_out n m vn' vq' vd' HO1.out.plain) (by unfold maxLen; omega) (by omega) (by have h1 := HMO.out.size; have h2 := HM1.out.size; simp; omega) ?_
            intro v' w3 hown hgrow hat
            have hm3 : Mods (Value.slice A L.length c).ownBlock.toList (w1.alloc (.cells (outC n m vn' vq' vd').toArray 49)) w3 := (Mods.refl _ _).grown hgrow (fun b hb => Or.inl (by simp [hb]))
            have hrel3 := hrel2.mods hm3 (fun k hk hk' => HF.out k hk (outB_mem.2 (Or.inl (by simpa using hk'))))
            have hS3 : w3.rangeAt w.heap.size 0 (msgC m vn vq vd) := range_mods hS2 hm3 (fun hk' => (HK.out w.heap.size (by simp)).2.2 (outB_mem.2 (Or.inl (by simpa using hk'))))
            have f6 := hrel3.frozen 6
            have c6' := hrel3.cell 6
            simp only [List.getElem?_toArray, List.getElem?_cons_zero, List.getElem?_cons_succ] at c6'
            obtain ⟨A3, c3, rfl⟩ := own_ctor hown
            try go_simp
            refine hK.out _ _ hS3 (fun hHeld => ?_)
            clear hK K2
            refine wpAnyH_take (i := 11) (v := ?_) rfl (by kernel_rfl) (by kernel_rfl) (by kernel_rfl) (fun _ _ _ h => h) (Or.inl ⟨by rfl, ?_⟩) hHeld ?_
            rotate_left
            · intro w hSw
              first | (go_simp; done) | (go_simp; with_reducible rfl)
            try simp only [Act.put, List.setIfInBounds_toArray]
            refine wpAnyH_take (i := 12) (v := ?_) rfl (by kernel_rfl) (by kernel_rfl) (by kernel_rfl) (fun _ _ _ h => h) (Or.inl ⟨by rfl, ?_⟩) hHeld ?_
            rotate_left
            · intro w hSw
              first | (go_simp; done) | (go_simp; with_reducible rfl)
            try simp only [Act.put]
            refine wpAnyH_ready (rs := [13]) (by kernel_rfl) (by simp) ?_
            refine AllReadyH.cons rfl (fun K2 hK => ?_) ?_
            · go_simp
              have hS4 : (w3.setCell ⟨r, 6, none⟩ (.slice A3 (L.length + 1) c3)).rangeAt w.heap.size 0 (msgC m vn vq vd) := range_mods hS3 ((Mods.refl [r] w3).setCell (p := ⟨r, 6, none⟩) (Or.inl (by simp)) _) (by
                intro hk'
                simp at hk'
                exact (HK.out w.heap.size (by simp)).2.1 (hk' ▸ HREL.out.here.1))
              refine hK.out _ _ hS4 (fun hHeld => ?_)
              clear hK K2
              refine wpAnyH_done (by kernel_rfl) ?_ _
              go_end0
              have hh := St.out (o := ⟨n, m, vn', vq', vd'⟩) (K := w.heap.size :: K) hrel2 hout2 HF.out (fun k hk => ⟨Nat.lt_of_lt_of_le (HK.out k hk).1 (Nat.le_trans HM1.out.size hmB.size), (HK.out k hk).2⟩) ((HMO.out.trans HM1.out (by simp)).trans hmB (by simp)) HSU.out (HO1.out.modsX hmB (by simp)) HMO.out.size (Nat.le_trans HM1.out.size hmB.size)
                (fun k hk => by
                  rcases hk with hk | hk | hk
                  · exact HREL.out.lt k hk
                  · exact (HK.out k hk).1
                  · exact (HOUT.out.lt k hk).2) hown hgrow hat
              refine ⟨rfl, ⟨n, m, vn', vq', vd'⟩, rfl, rfl, hh.1.less, fun k hk => ?_⟩
              rw [hh.2 k (List.mem_cons_of_mem _ hk), hmB.block k (Nat.lt_of_lt_of_le (HK.out k (List.mem_cons_of_mem _ hk)).1 HM1.out.size) (by simp), HM1.out.block k (HK.out k (List.mem_cons_of_mem _ hk)).1 (by simp)]
              exact HKO.out k hk
            exact AllReadyH.nil
          exact AllReadyH.nil
        exact AllReadyH.nil
      exact AllReadyH.nil
    exact AllReadyH.nil
  exact AllReadyH.nil
end Go.Proofs.YtlgoeipgmjcboaaGreatDoor
namespace Go.Proofs.YtlgoeipgmjcboaaGreatDoor
open Go.RowKit Me

theorem nil_msgR (w : World) (m : MsgP) (h1 : m.names = []) (h2 : m.qids = []) (h3 : m.data = []) : MsgR w m nilS nilS nilS := by
  refine ⟨?_, ?_, ?_⟩
  · rw [h1]
    exact ⟨none, 0, rfl, Nat.le_refl _, by decide, by simp⟩
  · rw [h2]
    exact ⟨none, 0, rfl, Nat.le_refl _, by decide, by simp⟩
  · rw [h3]
    exact ⟨none, 0, rfl, Nat.le_refl _, by decide, by simp⟩
theorem nil_plain : PlainM nilS nilS nilS := ⟨⟨none, 0, 0, rfl, by simp⟩, ⟨none, 0, 0, rfl, by simp⟩, ⟨none, 0, 0, rfl, by simp⟩⟩
def errM (tag e : Nat) : MsgP := { MsgP.zero with kind := 107, tag := tag, ename := wordOf e }
set_option maxHeartbeats 4000000 in
set_option maxRecDepth 100000 in
theorem refuse_any {w0 w : World} {F0 K : List Nat} {r : Nat} {R : RelP} {U : Nat → Nat} {G : Gh} {L : List OutV} (h : St w0 F0 K r R U G L w) (n : Int) (m : MsgP) (e : Nat) (he : isWord e) {vn vq vd : Value} (hL : L.length ≤ 1000) :
    Calls Tryz.prog 57 #[.pointer (some ⟨r, 0, none⟩), .int .i64 n, .agg (msgC m vn vq vd).toArray, .int .i64 (e : Int)] w fun x w' => x = .returned (.tuple #[]) ∧ ∃ o : OutV, o.c = n ∧ o.m = errM m.tag e ∧ St w0 F0 K r R U G (L ++ [o]) w' ∧ ∀ k ∈ K, w'.heap[k]? = w.heap[k]? := by
  have hA := (h.alloc (.cells (msgC m vn vq vd).toArray 47)).drew.less
  have HT := Lib.hid (tells_any hA n (errM m.tag e) (by simp [errM, MsgP.zero]) (nil_msgR _ _ rfl rfl rfl) nil_plain hL)
  have HE := Lib.hid (error_any e he (w.alloc (.cells (msgC m vn vq vd).toArray 47)).drew)
  have hrow : (w.alloc (.cells (msgC m vn vq vd).toArray 47)).heap[w.heap.size]? = some (.cells (msgC m vn vq vd).toArray 47 (0, 0)) := heap_alloc_new w _
  have c1 : (w.alloc (.cells (msgC m vn vq vd).toArray 47)).cell? ⟨w.heap.size, 1, none⟩ = some (.int .u16 (m.tag : Int)) := by rw [cell_of_row _ _ _ _ _ _ hrow]; rfl
  have HKO : Hid (∀ k ∈ K, ((w.alloc (.cells (msgC m vn vq vd).toArray 47)).drew).heap[k]? = w.heap[k]?) := Lib.hid (fun k hk => alloc_old _ (by
    obtain ⟨_, _, _, _, h4⟩ := h.ex
    exact (h4 k hk).1))
  clear h hA hrow
  generalize hmc : msgC m vn vq vd = mc at *
  clear hmc
  go_enter Tryz.func57, Tryz.ntmps57
  go_wp2_with fail
  go_region_with (first | (go_at_call 81; refine HE.out.mono ?_; rintro x w1 ⟨rfl, rfl⟩; go_simp) | (go_at_call 45; refine HT.out.mono ?_; rintro x w2 ⟨rfl, o, ho1, ho2, ho3, ho4⟩; have H1 := Lib.hid ho1; have H2 := Lib.hid ho2; have H3 := Lib.hid ho3; have H4 := Lib.hid ho4; clear ho1 ho2 ho3 ho4; go_simp))
  all_goals go_end0
  all_goals exact ⟨rfl, o, H1.out, H2.out, H3.out, fun k hk => (H4.out k hk).trans (HKO.out k hk)⟩
end Go.Proofs.YtlgoeipgmjcboaaGreatDoor
