/- comes: what becomes of links by an answer. (Printed by wip/bin/genjm.py.) -/
import Derived.Test.YtlgoeipgmjcboaaGreatDoorJl
import Derived.Laws.EntriesVeiled
namespace Go.Proofs.YtlgoeipgmjcboaaGreatDoor
open Go.RowKit Me
theorem setSame {w : World} {p : Nat} {T : TypeId} {x : Value} (h : w.heap[p]? = some (.cells #[x] T (0, 0))) (v : Value) : (w.setCell ⟨p, 0, none⟩ v).heap[p]? = some (.cells #[v] T (0, 0)) := heap_setCell_same _ _ _ _ _ _ h
theorem setOther {w : World} {p q : Nat} {T T' : TypeId} {cs cs' : Array Value} {fr fr' : Nat × Nat} (h : w.heap[p]? = some (.cells cs T fr)) (hq : w.heap[q]? = some (.cells cs' T' fr')) (hne : T ≠ T') (v : Value) : (w.setCell ⟨p, 0, none⟩ v).heap[q]? = some (.cells cs' T' fr') := by
  rw [heap_setCell_other _ _ _ _ (fun e => by
    rw [show q = p from e, h] at hq
    cases hq
    exact hne rfl)]
  exact hq
theorem sizeOf146 (w : World) : (Go.sizeOf 146).run Tryz.prog w = .ok 1 w := by kernel_rfl
section
variable {w w' : World} {r made : Nat} {R R' : RelP} {U : Nat → Nat} {G G' : Gh} {vo : Value}
/-- slices.Clone of a row of links. -/
theorem clone_uses (uses : List Nat) (vu : Value) (w : World) (h : w.ownsRow 0 146 1 vu uses.length (ptrs G uses)) (hu : uses.length ≤ 2) :
    Calls Tryz.prog 120 #[vu] w fun e w' => ∃ v', e = .returned v' ∧ w'.ownsRow w.heap.size 146 1 v' uses.length (ptrs G uses) ∧ Mods [] w w' := by
  rcases h.2 with ⟨rfl, hz⟩ | ⟨g, cap, cur, rfl, hb, hg, hn, hc, hcur⟩
  · have hL : uses = [] := by
      exact List.eq_nil_of_length_eq_zero hz
    subst hL
    exact (Tryz.slices_Clone120_nil _ _ w).mono fun e w' ⟨e1, e2⟩ => ⟨_, e1, by rw [e2]; exact World.ownsRow_nil _ _ _ _, by rw [e2]; exact Mods.refl _ _⟩
  · obtain ⟨i0, hi, hz0, hz1, hz2⟩ := info_parts info146
    refine (Tryz.slices_Clone120 i0 _ 1 8 hi hz0 hz1 hz2 rfl (by omega) sizeOf146 g 0 uses.length cap (ptrs G uses) w (by simp [ptrs]) (by unfold maxLen; omega) (by omega) (fun j u hj => ?_) (fun u hu => ?_)).mono ?_
    · rw [← hcur.2, Nat.mul_one, List.getElem?_take] at hj
      rw [Nat.zero_add, cell_of_row _ _ _ _ _ _ hg]
      split at hj
      · simpa using hj
      · simp at hj
    · obtain ⟨t, _, rfl⟩ := List.mem_map.1 hu
      rfl
    · rintro e w' ⟨v', rfl, ho, -, hb⟩
      exact ⟨v', rfl, ho, Mods.below hb _⟩
set_option maxRecDepth 100000 in
set_option maxHeartbeats 4000000 in
theorem comes_any {b n kind many : Nat} {cs : Array Value} {uses : List Nat} {vu : Value} (hd : Draft w G b cs n uses vu) (hu : uses.length ≤ 2) (h0 : cs[0]? = some (.int .u8 (kind : Int))) {A11 : Option Addr} {k11 : Nat} (h11 : cs[11]? = some (.slice A11 many k11)) (pl : Option Addr) :
    Calls Tryz.prog 86 #[.pointer (some ⟨b, 0, none⟩), .pointer pl] w fun e w' => ∃ c1 c2 c3 c4 vc, e = .returned (.func (.func 121) #[] #[.pointer (some ⟨c1, 0, none⟩), .pointer (some ⟨c2, 0, none⟩), .pointer (some ⟨c3, 0, none⟩), .pointer (some ⟨c4, 0, none⟩)]) ∧
      w.heap.size ≤ c1 ∧ w.heap.size ≤ c2 ∧ w.heap.size ≤ c3 ∧ w.heap.size ≤ c4 ∧ w'.heap[c1]? = some (.cells #[.int .u8 (kind : Int)] 36 (0, 0)) ∧ w'.heap[c2]? = some (.cells #[vc] 112 (0, 0)) ∧
      w'.heap[c3]? = some (.cells #[.pointer pl] 146 (0, 0)) ∧ w'.heap[c4]? = some (.cells #[.int .i64 (many : Int)] 3 (0, 0)) ∧ w'.ownsRow w.heap.size 146 1 vc uses.length (ptrs G uses) ∧ Mods [] w w' := by
  have hmf : ∀ (fn : Fn) (first cap : Array Value) (w : World), (Instr.makeFunc fn first cap).run Tryz.prog w = .ok (.func fn first cap) w := fun _ _ _ _ => rfl
  have hm0 := ((Mods.refl [] w).alloc (.cells #[.pointer pl] 146)).drew
  have H3 := Lib.hid (show (w.alloc (.cells #[.pointer pl] 146)).drew.heap[w.heap.size]? = some (.cells #[.pointer pl] 146 (0, 0)) from heap_alloc_new _ _)
  have HM0 := Lib.hid hm0
  have HL0 := Lib.hid (ownsRow_mods hd.list hm0 (by simp))
  have hS0 := hm0.heap hd.row (by simp)
  obtain ⟨Au, cu, hvu, -⟩ := ownsRow_slice hd.list
  have h40 : cs[40]? = some (.slice Au uses.length cu) := by rw [hd.held, hvu]
  rw [hvu] at HL0
  clear hd hm0
  go_enter Tryz.func86, Tryz.ntmps86
  go_wp2_with fail
  generalize hv0 : (w.alloc (.cells #[.pointer pl] 146)).drew = v0 at *
  refine wp_region_held_drew (S := fun W => W.heap[b]? = some (.cells cs 115 (0, 0))) (by kernel_rfl) (by simp only [hv0]; exact hS0) (fun hHeld => ?_)
  simp only [hv0] at *
  refine wpAnyH_take (i := 0) (v := ?_) rfl (by kernel_rfl) (by kernel_rfl) (by kernel_rfl) (fun _ _ _ h => h) (Or.inl ⟨by rfl, ?_⟩) hHeld ?_
  rotate_left
  · intro w hSw
    first | (go_simp; done) | (go_simp; with_reducible rfl)
  try simp only [Act.put]
  refine wpAnyH_take (i := 1) (v := ?_) rfl (by kernel_rfl) (by kernel_rfl) (by kernel_rfl) (fun _ _ _ h => h) (Or.inl ⟨by rfl, ?_⟩) hHeld ?_
  rotate_left
  · intro w hSw
    first | (go_simp; done) | (go_simp; with_reducible rfl)
  try simp only [Act.put]
  refine wpAnyH_take (i := 2) (v := ?_) rfl (by kernel_rfl) (by kernel_rfl) (by kernel_rfl) (fun _ _ _ h => h) (Or.inl ⟨by rfl, ?_⟩) hHeld ?_
  rotate_left
  · intro w hSw
    first | (go_simp; done) | (go_simp; with_reducible rfl)
  try simp only [Act.put]
  refine wpAnyH_take (i := 3) (v := ?_) rfl (by kernel_rfl) (by kernel_rfl) (by kernel_rfl) (fun _ _ _ h => h) (Or.inl ⟨by rfl, ?_⟩) hHeld ?_
  rotate_left
  · intro w hSw
    first | (go_simp; done) | (go_simp; with_reducible rfl)
  try simp only [Act.put]
  refine wpAnyH_take (i := 4) (v := ?_) rfl (by kernel_rfl) (by kernel_rfl) (by kernel_rfl) (fun _ _ _ h => h) (Or.inl ⟨by rfl, ?_⟩) hHeld ?_
  rotate_left
  · intro w hSw
    have hc : w.cell? ⟨b, 0, none⟩ = some (.int .u8 (kind : Int)) := by rw [cell_of_row _ _ _ _ _ _ hSw]; exact h0
    first | (go_simp; done) | (go_simp; with_reducible rfl)
  try simp only [Act.put]
  refine wpAnyH_take (i := 5) (v := ?_) rfl (by kernel_rfl) (by kernel_rfl) (by kernel_rfl) (fun _ _ _ h => h) (Or.inl ⟨by rfl, ?_⟩) hHeld ?_
  rotate_left
  · intro w hSw
    first | (go_simp; done) | (go_simp; with_reducible rfl)
  try simp only [Act.put]
  refine wpAnyH_take (i := 6) (v := ?_) rfl (by kernel_rfl) (by kernel_rfl) (by kernel_rfl) (fun _ _ _ h => h) (Or.inl ⟨by rfl, ?_⟩) hHeld ?_
  rotate_left
  · intro w hSw
    first | (go_simp; done) | (go_simp; with_reducible rfl)
  try simp only [Act.put]
  refine wpAnyH_take (i := 7) (v := ?_) rfl (by kernel_rfl) (by kernel_rfl) (by kernel_rfl) (fun _ _ _ h => h) (Or.inl ⟨by rfl, ?_⟩) hHeld ?_
  rotate_left
  · intro w hSw
    first | (go_simp; done) | (go_simp; with_reducible rfl)
  try simp only [Act.put]
  refine wpAnyH_take (i := 8) (v := ?_) rfl (by kernel_rfl) (by kernel_rfl) (by kernel_rfl) (fun _ _ _ h => h) (Or.inl ⟨by rfl, ?_⟩) hHeld ?_
  rotate_left
  · intro w hSw
    first | (go_simp; done) | (go_simp; with_reducible rfl)
  try simp only [Act.put]
  refine wpAnyH_take (i := 9) (v := ?_) rfl (by kernel_rfl) (by kernel_rfl) (by kernel_rfl) (fun _ _ _ h => h) (Or.inl ⟨by rfl, ?_⟩) hHeld ?_
  rotate_left
  · intro w hSw
    have hc : w.cell? ⟨b, 11, none⟩ = some (.slice A11 many k11) := by rw [cell_of_row _ _ _ _ _ _ hSw]; exact h11
    first | (go_simp; done) | (go_simp; with_reducible rfl)
  try simp only [Act.put]
  refine wpAnyH_take (i := 10) (v := ?_) rfl (by kernel_rfl) (by kernel_rfl) (by kernel_rfl) (fun _ _ _ h => h) (Or.inl ⟨by rfl, ?_⟩) hHeld ?_
  rotate_left
  · intro w hSw
    first | (go_simp; done) | (go_simp; with_reducible rfl)
  try simp only [Act.put]
  refine wpAnyH_take (i := 11) (v := ?_) rfl (by kernel_rfl) (by kernel_rfl) (by kernel_rfl) (fun _ _ _ h => h) (Or.inl ⟨by rfl, ?_⟩) hHeld ?_
  rotate_left
  · intro w hSw
    first | (go_simp; done) | (go_simp; with_reducible rfl)
  try simp only [Act.put]
  refine wpAnyH_take (i := 12) (v := ?_) rfl (by kernel_rfl) (by kernel_rfl) (by kernel_rfl) (fun _ _ _ h => h) (Or.inl ⟨by rfl, ?_⟩) hHeld ?_
  rotate_left
  · intro w hSw
    first | (go_simp; done) | (go_simp; with_reducible rfl)
  try simp only [Act.put]
  refine wpAnyH_take (i := 13) (v := ?_) rfl (by kernel_rfl) (by kernel_rfl) (by kernel_rfl) (fun _ _ _ h => h) (Or.inl ⟨by rfl, ?_⟩) hHeld ?_
  rotate_left
  · intro w hSw
    first | (go_simp; done) | (go_simp; with_reducible rfl)
  try simp only [Act.put]
  refine wpAnyH_take (i := 14) (v := ?_) rfl (by kernel_rfl) (by kernel_rfl) (by kernel_rfl) (fun _ _ _ h => h) (Or.inl ⟨by rfl, ?_⟩) hHeld ?_
  rotate_left
  · intro w hSw
    have hc : w.cell? ⟨b, 40, none⟩ = some (.slice Au uses.length cu) := by rw [cell_of_row _ _ _ _ _ _ hSw]; exact h40
    first | (go_simp; done) | (go_simp; with_reducible rfl)
  try simp only [Act.put]
  refine wpAnyH_ready (rs := [15, 16, 17, 18]) (by kernel_rfl) (by simp) ?_
  refine AllReadyH.cons rfl (fun K2 hK => ?_) ?_
  · go_simp
    refine (clone_uses (G := G) uses _ v0 HL0.out hu).mono ?_; rintro e v1 ⟨vc, rfl, hoc, hma⟩
    have hS1 := hma.heap hS0 (by simp)
    refine hK.out _ _ hS1 (fun hHeld => ?_)
    clear hK K2
    have HM1 := Lib.hid (HM0.out.trans hma (by simp))
    have HL1 := Lib.hid (ownsRow_mods HL0.out hma (by simp))
    replace H3 := Lib.hid (hma.heap H3.out (by simp))
    have HC := Lib.hid (ownsRow_base hoc HM0.out.size)
    clear hoc hma hS0 HM0 HL0
    refine wpAnyH_ready (rs := [16, 17, 18]) (by kernel_rfl) (by simp) ?_
    refine AllReadyH.cons rfl (fun K2 hK => ?_) ?_
    · go_simp
      have hma := (Mods.refl [] v1).alloc (.cells #[.int .u8 0] 36)
      have hS2 := hma.heap hS1 (by simp)
      refine hK.out _ _ hS2 (fun hHeld => ?_)
      clear hK K2
      have HM2 := Lib.hid (HM1.out.trans hma (by simp))
      have HL2 := Lib.hid (ownsRow_mods HL1.out hma (by simp))
      replace H3 := Lib.hid (hma.heap H3.out (by simp))
      replace HC := Lib.hid (ownsRow_mods HC.out hma (by simp))
      have H16 := Lib.hid (heap_alloc_new v1 (.cells #[.int .u8 0] 36))
      have L16 := Lib.hid HM1.out.size
      clear hma hS1 HM1 HL1
      generalize v1.alloc (.cells #[.int .u8 0] 36) = v2 at *
      generalize v1.heap.size = p5 at *
      refine wpAnyH_ready (rs := [17, 18]) (by kernel_rfl) (by simp) ?_
      refine AllReadyH.cons rfl (fun K2 hK => ?_) ?_
      · go_simp
        have hma := (Mods.refl [] v2).alloc (.cells #[.int .i64 0] 3)
        have hS3 := hma.heap hS2 (by simp)
        refine hK.out _ _ hS3 (fun hHeld => ?_)
        clear hK K2
        have HM3 := Lib.hid (HM2.out.trans hma (by simp))
        have HL3 := Lib.hid (ownsRow_mods HL2.out hma (by simp))
        replace H16 := Lib.hid (hma.heap H16.out (by simp))
        replace H3 := Lib.hid (hma.heap H3.out (by simp))
        replace HC := Lib.hid (ownsRow_mods HC.out hma (by simp))
        have H17 := Lib.hid (heap_alloc_new v2 (.cells #[.int .i64 0] 3))
        have L17 := Lib.hid HM2.out.size
        clear hma hS2 HM2 HL2
        generalize v2.alloc (.cells #[.int .i64 0] 3) = v3 at *
        generalize v2.heap.size = p6 at *
        refine wpAnyH_ready (rs := [18]) (by kernel_rfl) (by simp) ?_
        refine AllReadyH.cons rfl (fun K2 hK => ?_) ?_
        · go_simp
          have hma := (Mods.refl [] v3).alloc (.cells #[.slice none 0 0] 112)
          have hS4 := hma.heap hS3 (by simp)
          refine hK.out _ _ hS4 (fun hHeld => ?_)
          clear hK K2
          have HM4 := Lib.hid (HM3.out.trans hma (by simp))
          have HL4 := Lib.hid (ownsRow_mods HL3.out hma (by simp))
          replace H16 := Lib.hid (hma.heap H16.out (by simp))
          replace H17 := Lib.hid (hma.heap H17.out (by simp))
          replace H3 := Lib.hid (hma.heap H3.out (by simp))
          replace HC := Lib.hid (ownsRow_mods HC.out hma (by simp))
          have H18 := Lib.hid (heap_alloc_new v3 (.cells #[.slice none 0 0] 112))
          have L18 := Lib.hid HM3.out.size
          clear hma hS3 HM3 HL3
          generalize v3.alloc (.cells #[.slice none 0 0] 112) = v4 at *
          generalize v3.heap.size = p7 at *
          obtain ⟨Ac, cc, rfl, -⟩ := ownsRow_slice HC.out
          have f5 : v4.frozen? ⟨p5, 0, none⟩ = false := frozen_of_row _ _ _ _ _ H16.out
          have c5 : v4.cell? ⟨p5, 0, none⟩ = some (.int .u8 0) := by rw [cell_of_row _ _ _ _ _ _ H16.out]; rfl
          refine wpAnyH_ready (rs := [19]) (by kernel_rfl) (by simp) ?_
          refine AllReadyH.cons rfl (fun K2 hK => ?_) ?_
          · go_simp
            have hSa := setOther H16.out hS4 (by decide) (.int .u8 (kind : Int))
            refine hK.out _ _ hSa (fun hHeld => ?_)
            clear hK K2
            have HMa := Lib.hid (HM4.out.setCell (p := ⟨p5, 0, none⟩) (Or.inr L16.out) (.int .u8 (kind : Int)))
            replace HC := Lib.hid (ownsRow_set HC.out (a := ⟨p5, 0, none⟩) (ownsRow_not HC.out H16.out (by decide)) (.int .u8 (kind : Int)))
            replace H17 := Lib.hid (setOther H16.out H17.out (by decide) (.int .u8 (kind : Int)))
            replace H18 := Lib.hid (setOther H16.out H18.out (by decide) (.int .u8 (kind : Int)))
            replace H3 := Lib.hid (setOther H16.out H3.out (by decide) (.int .u8 (kind : Int)))
            replace H16 := Lib.hid (setSame H16.out (.int .u8 (kind : Int)))
            clear hS4 HM4 HL4 c5 f5
            generalize v4.setCell ⟨p5, 0, none⟩ (.int .u8 (kind : Int)) = va at *
            have f6 : va.frozen? ⟨p6, 0, none⟩ = false := frozen_of_row _ _ _ _ _ H17.out
            have c6 : va.cell? ⟨p6, 0, none⟩ = some (.int .i64 0) := by rw [cell_of_row _ _ _ _ _ _ H17.out]; rfl
            refine wpAnyH_ready (rs := [20]) (by kernel_rfl) (by simp) ?_
            refine AllReadyH.cons rfl (fun K2 hK => ?_) ?_
            · go_simp
              have hSb := setOther H17.out hSa (by decide) (.int .i64 (many : Int))
              refine hK.out _ _ hSb (fun hHeld => ?_)
              clear hK K2
              have HMb := Lib.hid (HMa.out.setCell (p := ⟨p6, 0, none⟩) (Or.inr L17.out) (.int .i64 (many : Int)))
              replace HC := Lib.hid (ownsRow_set HC.out (a := ⟨p6, 0, none⟩) (ownsRow_not HC.out H17.out (by decide)) (.int .i64 (many : Int)))
              replace H16 := Lib.hid (setOther H17.out H16.out (by decide) (.int .i64 (many : Int)))
              replace H18 := Lib.hid (setOther H17.out H18.out (by decide) (.int .i64 (many : Int)))
              replace H3 := Lib.hid (setOther H17.out H3.out (by decide) (.int .i64 (many : Int)))
              replace H17 := Lib.hid (setSame H17.out (.int .i64 (many : Int)))
              clear hSa HMa c6 f6
              generalize va.setCell ⟨p6, 0, none⟩ (.int .i64 (many : Int)) = vb at *
              have f7 : vb.frozen? ⟨p7, 0, none⟩ = false := frozen_of_row _ _ _ _ _ H18.out
              have c7 : vb.cell? ⟨p7, 0, none⟩ = some (.slice none 0 0) := by rw [cell_of_row _ _ _ _ _ _ H18.out]; rfl
              refine wpAnyH_ready (rs := [21]) (by kernel_rfl) (by simp) ?_
              refine AllReadyH.cons rfl (fun K2 hK => ?_) ?_
              · go_simp
                have hSc := setOther H18.out hSb (by decide) (.slice Ac uses.length cc)
                refine hK.out _ _ hSc (fun hHeld => ?_)
                clear hK K2
                have HMc := Lib.hid (HMb.out.setCell (p := ⟨p7, 0, none⟩) (Or.inr L18.out) (.slice Ac uses.length cc))
                replace HC := Lib.hid (ownsRow_set HC.out (a := ⟨p7, 0, none⟩) (ownsRow_not HC.out H18.out (by decide)) (.slice Ac uses.length cc))
                replace H16 := Lib.hid (setOther H18.out H16.out (by decide) (.slice Ac uses.length cc))
                replace H17 := Lib.hid (setOther H18.out H17.out (by decide) (.slice Ac uses.length cc))
                replace H3 := Lib.hid (setOther H18.out H3.out (by decide) (.slice Ac uses.length cc))
                replace H18 := Lib.hid (setSame H18.out (.slice Ac uses.length cc))
                clear hSb HMb c7 f7
                generalize vb.setCell ⟨p7, 0, none⟩ (.slice Ac uses.length cc) = vz at *
                refine wpAnyH_done (by kernel_rfl) ?_ _
                go_wp2_with fail
                go_ret
                exact ⟨p5, p7, w.heap.size, p6, _, rfl, L16.out, L18.out, Nat.le_refl _, L17.out, H16.out, H18.out, H3.out, H17.out, HC.out, HMc.out⟩
              exact AllReadyH.nil
            exact AllReadyH.nil
          exact AllReadyH.nil
        exact AllReadyH.nil
      refine AllReadyH.cons rfl (fun K2 hK => ?_) ?_
      · go_simp
        have hma := (Mods.refl [] v2).alloc (.cells #[.slice none 0 0] 112)
        have hS3 := hma.heap hS2 (by simp)
        refine hK.out _ _ hS3 (fun hHeld => ?_)
        clear hK K2
        have HM3 := Lib.hid (HM2.out.trans hma (by simp))
        have HL3 := Lib.hid (ownsRow_mods HL2.out hma (by simp))
        replace H16 := Lib.hid (hma.heap H16.out (by simp))
        replace H3 := Lib.hid (hma.heap H3.out (by simp))
        replace HC := Lib.hid (ownsRow_mods HC.out hma (by simp))
        have H18 := Lib.hid (heap_alloc_new v2 (.cells #[.slice none 0 0] 112))
        have L18 := Lib.hid HM2.out.size
        clear hma hS2 HM2 HL2
        generalize v2.alloc (.cells #[.slice none 0 0] 112) = v3 at *
        generalize v2.heap.size = p7 at *
        refine wpAnyH_ready (rs := [17]) (by kernel_rfl) (by simp) ?_
        refine AllReadyH.cons rfl (fun K2 hK => ?_) ?_
        · go_simp
          have hma := (Mods.refl [] v3).alloc (.cells #[.int .i64 0] 3)
          have hS4 := hma.heap hS3 (by simp)
          refine hK.out _ _ hS4 (fun hHeld => ?_)
          clear hK K2
          have HM4 := Lib.hid (HM3.out.trans hma (by simp))
          have HL4 := Lib.hid (ownsRow_mods HL3.out hma (by simp))
          replace H16 := Lib.hid (hma.heap H16.out (by simp))
          replace H18 := Lib.hid (hma.heap H18.out (by simp))
          replace H3 := Lib.hid (hma.heap H3.out (by simp))
          replace HC := Lib.hid (ownsRow_mods HC.out hma (by simp))
          have H17 := Lib.hid (heap_alloc_new v3 (.cells #[.int .i64 0] 3))
          have L17 := Lib.hid HM3.out.size
          clear hma hS3 HM3 HL3
          generalize v3.alloc (.cells #[.int .i64 0] 3) = v4 at *
          generalize v3.heap.size = p6 at *
          obtain ⟨Ac, cc, rfl, -⟩ := ownsRow_slice HC.out
          have f5 : v4.frozen? ⟨p5, 0, none⟩ = false := frozen_of_row _ _ _ _ _ H16.out
          have c5 : v4.cell? ⟨p5, 0, none⟩ = some (.int .u8 0) := by rw [cell_of_row _ _ _ _ _ _ H16.out]; rfl
          refine wpAnyH_ready (rs := [19]) (by kernel_rfl) (by simp) ?_
          refine AllReadyH.cons rfl (fun K2 hK => ?_) ?_
          · go_simp
            have hSa := setOther H16.out hS4 (by decide) (.int .u8 (kind : Int))
            refine hK.out _ _ hSa (fun hHeld => ?_)
            clear hK K2
            have HMa := Lib.hid (HM4.out.setCell (p := ⟨p5, 0, none⟩) (Or.inr L16.out) (.int .u8 (kind : Int)))
            replace HC := Lib.hid (ownsRow_set HC.out (a := ⟨p5, 0, none⟩) (ownsRow_not HC.out H16.out (by decide)) (.int .u8 (kind : Int)))
            replace H17 := Lib.hid (setOther H16.out H17.out (by decide) (.int .u8 (kind : Int)))
            replace H18 := Lib.hid (setOther H16.out H18.out (by decide) (.int .u8 (kind : Int)))
            replace H3 := Lib.hid (setOther H16.out H3.out (by decide) (.int .u8 (kind : Int)))
            replace H16 := Lib.hid (setSame H16.out (.int .u8 (kind : Int)))
            clear hS4 HM4 HL4 c5 f5
            generalize v4.setCell ⟨p5, 0, none⟩ (.int .u8 (kind : Int)) = va at *
            have f6 : va.frozen? ⟨p6, 0, none⟩ = false := frozen_of_row _ _ _ _ _ H17.out
            have c6 : va.cell? ⟨p6, 0, none⟩ = some (.int .i64 0) := by rw [cell_of_row _ _ _ _ _ _ H17.out]; rfl
            refine wpAnyH_ready (rs := [20]) (by kernel_rfl) (by simp) ?_
            refine AllReadyH.cons rfl (fun K2 hK => ?_) ?_
            · go_simp
              have hSb := setOther H17.out hSa (by decide) (.int .i64 (many : Int))
              refine hK.out _ _ hSb (fun hHeld => ?_)
              clear hK K2
              have HMb := Lib.hid (HMa.out.setCell (p := ⟨p6, 0, none⟩) (Or.inr L17.out) (.int .i64 (many : Int)))
              replace HC := Lib.hid (ownsRow_set HC.out (a := ⟨p6, 0, none⟩) (ownsRow_not HC.out H17.out (by decide)) (.int .i64 (many : Int)))
              replace H16 := Lib.hid (setOther H17.out H16.out (by decide) (.int .i64 (many : Int)))
              replace H18 := Lib.hid (setOther H17.out H18.out (by decide) (.int .i64 (many : Int)))
              replace H3 := Lib.hid (setOther H17.out H3.out (by decide) (.int .i64 (many : Int)))
              replace H17 := Lib.hid (setSame H17.out (.int .i64 (many : Int)))
              clear hSa HMa c6 f6
              generalize va.setCell ⟨p6, 0, none⟩ (.int .i64 (many : Int)) = vb at *
              have f7 : vb.frozen? ⟨p7, 0, none⟩ = false := frozen_of_row _ _ _ _ _ H18.out
              have c7 : vb.cell? ⟨p7, 0, none⟩ = some (.slice none 0 0) := by rw [cell_of_row _ _ _ _ _ _ H18.out]; rfl
              refine wpAnyH_ready (rs := [21]) (by kernel_rfl) (by simp) ?_
              refine AllReadyH.cons rfl (fun K2 hK => ?_) ?_
              · go_simp
                have hSc := setOther H18.out hSb (by decide) (.slice Ac uses.length cc)
                refine hK.out _ _ hSc (fun hHeld => ?_)
                clear hK K2
                have HMc := Lib.hid (HMb.out.setCell (p := ⟨p7, 0, none⟩) (Or.inr L18.out) (.slice Ac uses.length cc))
                replace HC := Lib.hid (ownsRow_set HC.out (a := ⟨p7, 0, none⟩) (ownsRow_not HC.out H18.out (by decide)) (.slice Ac uses.length cc))
                replace H16 := Lib.hid (setOther H18.out H16.out (by decide) (.slice Ac uses.length cc))
                replace H17 := Lib.hid (setOther H18.out H17.out (by decide) (.slice Ac uses.length cc))
                replace H3 := Lib.hid (setOther H18.out H3.out (by decide) (.slice Ac uses.length cc))
                replace H18 := Lib.hid (setSame H18.out (.slice Ac uses.length cc))
                clear hSb HMb c7 f7
                generalize vb.setCell ⟨p7, 0, none⟩ (.slice Ac uses.length cc) = vz at *
                refine wpAnyH_done (by kernel_rfl) ?_ _
                go_wp2_with fail
                go_ret
                exact ⟨p5, p7, w.heap.size, p6, _, rfl, L16.out, L18.out, Nat.le_refl _, L17.out, H16.out, H18.out, H3.out, H17.out, HC.out, HMc.out⟩
              exact AllReadyH.nil
            exact AllReadyH.nil
          exact AllReadyH.nil
        exact AllReadyH.nil
      exact AllReadyH.nil
    refine AllReadyH.cons rfl (fun K2 hK => ?_) ?_
    · go_simp
      have hma := (Mods.refl [] v1).alloc (.cells #[.int .i64 0] 3)
      have hS2 := hma.heap hS1 (by simp)
      refine hK.out _ _ hS2 (fun hHeld => ?_)
      clear hK K2
      have HM2 := Lib.hid (HM1.out.trans hma (by simp))
      have HL2 := Lib.hid (ownsRow_mods HL1.out hma (by simp))
      replace H3 := Lib.hid (hma.heap H3.out (by simp))
      replace HC := Lib.hid (ownsRow_mods HC.out hma (by simp))
      have H17 := Lib.hid (heap_alloc_new v1 (.cells #[.int .i64 0] 3))
      have L17 := Lib.hid HM1.out.size
      clear hma hS1 HM1 HL1
      generalize v1.alloc (.cells #[.int .i64 0] 3) = v2 at *
      generalize v1.heap.size = p6 at *
      refine wpAnyH_ready (rs := [16, 18]) (by kernel_rfl) (by simp) ?_
      refine AllReadyH.cons rfl (fun K2 hK => ?_) ?_
      · go_simp
        have hma := (Mods.refl [] v2).alloc (.cells #[.int .u8 0] 36)
        have hS3 := hma.heap hS2 (by simp)
        refine hK.out _ _ hS3 (fun hHeld => ?_)
        clear hK K2
        have HM3 := Lib.hid (HM2.out.trans hma (by simp))
        have HL3 := Lib.hid (ownsRow_mods HL2.out hma (by simp))
        replace H17 := Lib.hid (hma.heap H17.out (by simp))
        replace H3 := Lib.hid (hma.heap H3.out (by simp))
        replace HC := Lib.hid (ownsRow_mods HC.out hma (by simp))
        have H16 := Lib.hid (heap_alloc_new v2 (.cells #[.int .u8 0] 36))
        have L16 := Lib.hid HM2.out.size
        clear hma hS2 HM2 HL2
        generalize v2.alloc (.cells #[.int .u8 0] 36) = v3 at *
        generalize v2.heap.size = p5 at *
        refine wpAnyH_ready (rs := [18]) (by kernel_rfl) (by simp) ?_
        refine AllReadyH.cons rfl (fun K2 hK => ?_) ?_
        · go_simp
          have hma := (Mods.refl [] v3).alloc (.cells #[.slice none 0 0] 112)
          have hS4 := hma.heap hS3 (by simp)
          refine hK.out _ _ hS4 (fun hHeld => ?_)
          clear hK K2
          have HM4 := Lib.hid (HM3.out.trans hma (by simp))
          have HL4 := Lib.hid (ownsRow_mods HL3.out hma (by simp))
          replace H16 := Lib.hid (hma.heap H16.out (by simp))
          replace H17 := Lib.hid (hma.heap H17.out (by simp))
          replace H3 := Lib.hid (hma.heap H3.out (by simp))
          replace HC := Lib.hid (ownsRow_mods HC.out hma (by simp))
          have H18 := Lib.hid (heap_alloc_new v3 (.cells #[.slice none 0 0] 112))
          have L18 := Lib.hid HM3.out.size
          clear hma hS3 HM3 HL3
          generalize v3.alloc (.cells #[.slice none 0 0] 112) = v4 at *
          generalize v3.heap.size = p7 at *
          obtain ⟨Ac, cc, rfl, -⟩ := ownsRow_slice HC.out
          have f5 : v4.frozen? ⟨p5, 0, none⟩ = false := frozen_of_row _ _ _ _ _ H16.out
          have c5 : v4.cell? ⟨p5, 0, none⟩ = some (.int .u8 0) := by rw [cell_of_row _ _ _ _ _ _ H16.out]; rfl
          refine wpAnyH_ready (rs := [19]) (by kernel_rfl) (by simp) ?_
          refine AllReadyH.cons rfl (fun K2 hK => ?_) ?_
          · go_simp
            have hSa := setOther H16.out hS4 (by decide) (.int .u8 (kind : Int))
            refine hK.out _ _ hSa (fun hHeld => ?_)
            clear hK K2
            have HMa := Lib.hid (HM4.out.setCell (p := ⟨p5, 0, none⟩) (Or.inr L16.out) (.int .u8 (kind : Int)))
            replace HC := Lib.hid (ownsRow_set HC.out (a := ⟨p5, 0, none⟩) (ownsRow_not HC.out H16.out (by decide)) (.int .u8 (kind : Int)))
            replace H17 := Lib.hid (setOther H16.out H17.out (by decide) (.int .u8 (kind : Int)))
            replace H18 := Lib.hid (setOther H16.out H18.out (by decide) (.int .u8 (kind : Int)))
            replace H3 := Lib.hid (setOther H16.out H3.out (by decide) (.int .u8 (kind : Int)))
            replace H16 := Lib.hid (setSame H16.out (.int .u8 (kind : Int)))
            clear hS4 HM4 HL4 c5 f5
            generalize v4.setCell ⟨p5, 0, none⟩ (.int .u8 (kind : Int)) = va at *
            have f6 : va.frozen? ⟨p6, 0, none⟩ = false := frozen_of_row _ _ _ _ _ H17.out
            have c6 : va.cell? ⟨p6, 0, none⟩ = some (.int .i64 0) := by rw [cell_of_row _ _ _ _ _ _ H17.out]; rfl
            refine wpAnyH_ready (rs := [20]) (by kernel_rfl) (by simp) ?_
            refine AllReadyH.cons rfl (fun K2 hK => ?_) ?_
            · go_simp
              have hSb := setOther H17.out hSa (by decide) (.int .i64 (many : Int))
              refine hK.out _ _ hSb (fun hHeld => ?_)
              clear hK K2
              have HMb := Lib.hid (HMa.out.setCell (p := ⟨p6, 0, none⟩) (Or.inr L17.out) (.int .i64 (many : Int)))
              replace HC := Lib.hid (ownsRow_set HC.out (a := ⟨p6, 0, none⟩) (ownsRow_not HC.out H17.out (by decide)) (.int .i64 (many : Int)))
              replace H16 := Lib.hid (setOther H17.out H16.out (by decide) (.int .i64 (many : Int)))
              replace H18 := Lib.hid (setOther H17.out H18.out (by decide) (.int .i64 (many : Int)))
              replace H3 := Lib.hid (setOther H17.out H3.out (by decide) (.int .i64 (many : Int)))
              replace H17 := Lib.hid (setSame H17.out (.int .i64 (many : Int)))
              clear hSa HMa c6 f6
              generalize va.setCell ⟨p6, 0, none⟩ (.int .i64 (many : Int)) = vb at *
              have f7 : vb.frozen? ⟨p7, 0, none⟩ = false := frozen_of_row _ _ _ _ _ H18.out
              have c7 : vb.cell? ⟨p7, 0, none⟩ = some (.slice none 0 0) := by rw [cell_of_row _ _ _ _ _ _ H18.out]; rfl
              refine wpAnyH_ready (rs := [21]) (by kernel_rfl) (by simp) ?_
              refine AllReadyH.cons rfl (fun K2 hK => ?_) ?_
              · go_simp
                have hSc := setOther H18.out hSb (by decide) (.slice Ac uses.length cc)
                refine hK.out _ _ hSc (fun hHeld => ?_)
                clear hK K2
                have HMc := Lib.hid (HMb.out.setCell (p := ⟨p7, 0, none⟩) (Or.inr L18.out) (.slice Ac uses.length cc))
                replace HC := Lib.hid (ownsRow_set HC.out (a := ⟨p7, 0, none⟩) (ownsRow_not HC.out H18.out (by decide)) (.slice Ac uses.length cc))
                replace H16 := Lib.hid (setOther H18.out H16.out (by decide) (.slice Ac uses.length cc))
                replace H17 := Lib.hid (setOther H18.out H17.out (by decide) (.slice Ac uses.length cc))
                replace H3 := Lib.hid (setOther H18.out H3.out (by decide) (.slice Ac uses.length cc))
                replace H18 := Lib.hid (setSame H18.out (.slice Ac uses.length cc))
                clear hSb HMb c7 f7
                generalize vb.setCell ⟨p7, 0, none⟩ (.slice Ac uses.length cc) = vz at *
                refine wpAnyH_done (by kernel_rfl) ?_ _
                go_wp2_with fail
                go_ret
                exact ⟨p5, p7, w.heap.size, p6, _, rfl, L16.out, L18.out, Nat.le_refl _, L17.out, H16.out, H18.out, H3.out, H17.out, HC.out, HMc.out⟩
              exact AllReadyH.nil
            exact AllReadyH.nil
          exact AllReadyH.nil
        exact AllReadyH.nil
      refine AllReadyH.cons rfl (fun K2 hK => ?_) ?_
      · go_simp
        have hma := (Mods.refl [] v2).alloc (.cells #[.slice none 0 0] 112)
        have hS3 := hma.heap hS2 (by simp)
        refine hK.out _ _ hS3 (fun hHeld => ?_)
        clear hK K2
        have HM3 := Lib.hid (HM2.out.trans hma (by simp))
        have HL3 := Lib.hid (ownsRow_mods HL2.out hma (by simp))
        replace H17 := Lib.hid (hma.heap H17.out (by simp))
        replace H3 := Lib.hid (hma.heap H3.out (by simp))
        replace HC := Lib.hid (ownsRow_mods HC.out hma (by simp))
        have H18 := Lib.hid (heap_alloc_new v2 (.cells #[.slice none 0 0] 112))
        have L18 := Lib.hid HM2.out.size
        clear hma hS2 HM2 HL2
        generalize v2.alloc (.cells #[.slice none 0 0] 112) = v3 at *
        generalize v2.heap.size = p7 at *
        refine wpAnyH_ready (rs := [16]) (by kernel_rfl) (by simp) ?_
        refine AllReadyH.cons rfl (fun K2 hK => ?_) ?_
        · go_simp
          have hma := (Mods.refl [] v3).alloc (.cells #[.int .u8 0] 36)
          have hS4 := hma.heap hS3 (by simp)
          refine hK.out _ _ hS4 (fun hHeld => ?_)
          clear hK K2
          have HM4 := Lib.hid (HM3.out.trans hma (by simp))
          have HL4 := Lib.hid (ownsRow_mods HL3.out hma (by simp))
          replace H17 := Lib.hid (hma.heap H17.out (by simp))
          replace H18 := Lib.hid (hma.heap H18.out (by simp))
          replace H3 := Lib.hid (hma.heap H3.out (by simp))
          replace HC := Lib.hid (ownsRow_mods HC.out hma (by simp))
          have H16 := Lib.hid (heap_alloc_new v3 (.cells #[.int .u8 0] 36))
          have L16 := Lib.hid HM3.out.size
          clear hma hS3 HM3 HL3
          generalize v3.alloc (.cells #[.int .u8 0] 36) = v4 at *
          generalize v3.heap.size = p5 at *
          obtain ⟨Ac, cc, rfl, -⟩ := ownsRow_slice HC.out
          have f5 : v4.frozen? ⟨p5, 0, none⟩ = false := frozen_of_row _ _ _ _ _ H16.out
          have c5 : v4.cell? ⟨p5, 0, none⟩ = some (.int .u8 0) := by rw [cell_of_row _ _ _ _ _ _ H16.out]; rfl
          refine wpAnyH_ready (rs := [19]) (by kernel_rfl) (by simp) ?_
          refine AllReadyH.cons rfl (fun K2 hK => ?_) ?_
          · go_simp
            have hSa := setOther H16.out hS4 (by decide) (.int .u8 (kind : Int))
            refine hK.out _ _ hSa (fun hHeld => ?_)
            clear hK K2
            have HMa := Lib.hid (HM4.out.setCell (p := ⟨p5, 0, none⟩) (Or.inr L16.out) (.int .u8 (kind : Int)))
            replace HC := Lib.hid (ownsRow_set HC.out (a := ⟨p5, 0, none⟩) (ownsRow_not HC.out H16.out (by decide)) (.int .u8 (kind : Int)))
            replace H17 := Lib.hid (setOther H16.out H17.out (by decide) (.int .u8 (kind : Int)))
            replace H18 := Lib.hid (setOther H16.out H18.out (by decide) (.int .u8 (kind : Int)))
            replace H3 := Lib.hid (setOther H16.out H3.out (by decide) (.int .u8 (kind : Int)))
            replace H16 := Lib.hid (setSame H16.out (.int .u8 (kind : Int)))
            clear hS4 HM4 HL4 c5 f5
            generalize v4.setCell ⟨p5, 0, none⟩ (.int .u8 (kind : Int)) = va at *
            have f6 : va.frozen? ⟨p6, 0, none⟩ = false := frozen_of_row _ _ _ _ _ H17.out
            have c6 : va.cell? ⟨p6, 0, none⟩ = some (.int .i64 0) := by rw [cell_of_row _ _ _ _ _ _ H17.out]; rfl
            refine wpAnyH_ready (rs := [20]) (by kernel_rfl) (by simp) ?_
            refine AllReadyH.cons rfl (fun K2 hK => ?_) ?_
            · go_simp
              have hSb := setOther H17.out hSa (by decide) (.int .i64 (many : Int))
              refine hK.out _ _ hSb (fun hHeld => ?_)
              clear hK K2
              have HMb := Lib.hid (HMa.out.setCell (p := ⟨p6, 0, none⟩) (Or.inr L17.out) (.int .i64 (many : Int)))
              replace HC := Lib.hid (ownsRow_set HC.out (a := ⟨p6, 0, none⟩) (ownsRow_not HC.out H17.out (by decide)) (.int .i64 (many : Int)))
              replace H16 := Lib.hid (setOther H17.out H16.out (by decide) (.int .i64 (many : Int)))
              replace H18 := Lib.hid (setOther H17.out H18.out (by decide) (.int .i64 (many : Int)))
              replace H3 := Lib.hid (setOther H17.out H3.out (by decide) (.int .i64 (many : Int)))
              replace H17 := Lib.hid (setSame H17.out (.int .i64 (many : Int)))
              clear hSa HMa c6 f6
              generalize va.setCell ⟨p6, 0, none⟩ (.int .i64 (many : Int)) = vb at *
              have f7 : vb.frozen? ⟨p7, 0, none⟩ = false := frozen_of_row _ _ _ _ _ H18.out
              have c7 : vb.cell? ⟨p7, 0, none⟩ = some (.slice none 0 0) := by rw [cell_of_row _ _ _ _ _ _ H18.out]; rfl
              refine wpAnyH_ready (rs := [21]) (by kernel_rfl) (by simp) ?_
              refine AllReadyH.cons rfl (fun K2 hK => ?_) ?_
              · go_simp
                have hSc := setOther H18.out hSb (by decide) (.slice Ac uses.length cc)
                refine hK.out _ _ hSc (fun hHeld => ?_)
                clear hK K2
                have HMc := Lib.hid (HMb.out.setCell (p := ⟨p7, 0, none⟩) (Or.inr L18.out) (.slice Ac uses.length cc))
                replace HC := Lib.hid (ownsRow_set HC.out (a := ⟨p7, 0, none⟩) (ownsRow_not HC.out H18.out (by decide)) (.slice Ac uses.length cc))
                replace H16 := Lib.hid (setOther H18.out H16.out (by decide) (.slice Ac uses.length cc))
                replace H17 := Lib.hid (setOther H18.out H17.out (by decide) (.slice Ac uses.length cc))
                replace H3 := Lib.hid (setOther H18.out H3.out (by decide) (.slice Ac uses.length cc))
                replace H18 := Lib.hid (setSame H18.out (.slice Ac uses.length cc))
                clear hSb HMb c7 f7
                generalize vb.setCell ⟨p7, 0, none⟩ (.slice Ac uses.length cc) = vz at *
                refine wpAnyH_done (by kernel_rfl) ?_ _
                go_wp2_with fail
                go_ret
                exact ⟨p5, p7, w.heap.size, p6, _, rfl, L16.out, L18.out, Nat.le_refl _, L17.out, H16.out, H18.out, H3.out, H17.out, HC.out, HMc.out⟩
              exact AllReadyH.nil
            exact AllReadyH.nil
          exact AllReadyH.nil
        exact AllReadyH.nil
      exact AllReadyH.nil
    refine AllReadyH.cons rfl (fun K2 hK => ?_) ?_
    · go_simp
      have hma := (Mods.refl [] v1).alloc (.cells #[.slice none 0 0] 112)
      have hS2 := hma.heap hS1 (by simp)
      refine hK.out _ _ hS2 (fun hHeld => ?_)
      clear hK K2
      have HM2 := Lib.hid (HM1.out.trans hma (by simp))
      have HL2 := Lib.hid (ownsRow_mods HL1.out hma (by simp))
      replace H3 := Lib.hid (hma.heap H3.out (by simp))
      replace HC := Lib.hid (ownsRow_mods HC.out hma (by simp))
      have H18 := Lib.hid (heap_alloc_new v1 (.cells #[.slice none 0 0] 112))
      have L18 := Lib.hid HM1.out.size
      clear hma hS1 HM1 HL1
      generalize v1.alloc (.cells #[.slice none 0 0] 112) = v2 at *
      generalize v1.heap.size = p7 at *
      refine wpAnyH_ready (rs := [16, 17]) (by kernel_rfl) (by simp) ?_
      refine AllReadyH.cons rfl (fun K2 hK => ?_) ?_
      · go_simp
        have hma := (Mods.refl [] v2).alloc (.cells #[.int .u8 0] 36)
        have hS3 := hma.heap hS2 (by simp)
        refine hK.out _ _ hS3 (fun hHeld => ?_)
        clear hK K2
        have HM3 := Lib.hid (HM2.out.trans hma (by simp))
        have HL3 := Lib.hid (ownsRow_mods HL2.out hma (by simp))
        replace H18 := Lib.hid (hma.heap H18.out (by simp))
        replace H3 := Lib.hid (hma.heap H3.out (by simp))
        replace HC := Lib.hid (ownsRow_mods HC.out hma (by simp))
        have H16 := Lib.hid (heap_alloc_new v2 (.cells #[.int .u8 0] 36))
        have L16 := Lib.hid HM2.out.size
        clear hma hS2 HM2 HL2
        generalize v2.alloc (.cells #[.int .u8 0] 36) = v3 at *
        generalize v2.heap.size = p5 at *
        refine wpAnyH_ready (rs := [17]) (by kernel_rfl) (by simp) ?_
        refine AllReadyH.cons rfl (fun K2 hK => ?_) ?_
        · go_simp
          have hma := (Mods.refl [] v3).alloc (.cells #[.int .i64 0] 3)
          have hS4 := hma.heap hS3 (by simp)
          refine hK.out _ _ hS4 (fun hHeld => ?_)
          clear hK K2
          have HM4 := Lib.hid (HM3.out.trans hma (by simp))
          have HL4 := Lib.hid (ownsRow_mods HL3.out hma (by simp))
          replace H16 := Lib.hid (hma.heap H16.out (by simp))
          replace H18 := Lib.hid (hma.heap H18.out (by simp))
          replace H3 := Lib.hid (hma.heap H3.out (by simp))
          replace HC := Lib.hid (ownsRow_mods HC.out hma (by simp))
          have H17 := Lib.hid (heap_alloc_new v3 (.cells #[.int .i64 0] 3))
          have L17 := Lib.hid HM3.out.size
          clear hma hS3 HM3 HL3
          generalize v3.alloc (.cells #[.int .i64 0] 3) = v4 at *
          generalize v3.heap.size = p6 at *
          obtain ⟨Ac, cc, rfl, -⟩ := ownsRow_slice HC.out
          have f5 : v4.frozen? ⟨p5, 0, none⟩ = false := frozen_of_row _ _ _ _ _ H16.out
          have c5 : v4.cell? ⟨p5, 0, none⟩ = some (.int .u8 0) := by rw [cell_of_row _ _ _ _ _ _ H16.out]; rfl
          refine wpAnyH_ready (rs := [19]) (by kernel_rfl) (by simp) ?_
          refine AllReadyH.cons rfl (fun K2 hK => ?_) ?_
          · go_simp
            have hSa := setOther H16.out hS4 (by decide) (.int .u8 (kind : Int))
            refine hK.out _ _ hSa (fun hHeld => ?_)
            clear hK K2
            have HMa := Lib.hid (HM4.out.setCell (p := ⟨p5, 0, none⟩) (Or.inr L16.out) (.int .u8 (kind : Int)))
            replace HC := Lib.hid (ownsRow_set HC.out (a := ⟨p5, 0, none⟩) (ownsRow_not HC.out H16.out (by decide)) (.int .u8 (kind : Int)))
            replace H17 := Lib.hid (setOther H16.out H17.out (by decide) (.int .u8 (kind : Int)))
            replace H18 := Lib.hid (setOther H16.out H18.out (by decide) (.int .u8 (kind : Int)))
            replace H3 := Lib.hid (setOther H16.out H3.out (by decide) (.int .u8 (kind : Int)))
            replace H16 := Lib.hid (setSame H16.out (.int .u8 (kind : Int)))
            clear hS4 HM4 HL4 c5 f5
            generalize v4.setCell ⟨p5, 0, none⟩ (.int .u8 (kind : Int)) = va at *
            have f6 : va.frozen? ⟨p6, 0, none⟩ = false := frozen_of_row _ _ _ _ _ H17.out
            have c6 : va.cell? ⟨p6, 0, none⟩ = some (.int .i64 0) := by rw [cell_of_row _ _ _ _ _ _ H17.out]; rfl
            refine wpAnyH_ready (rs := [20]) (by kernel_rfl) (by simp) ?_
            refine AllReadyH.cons rfl (fun K2 hK => ?_) ?_
            · go_simp
              have hSb := setOther H17.out hSa (by decide) (.int .i64 (many : Int))
              refine hK.out _ _ hSb (fun hHeld => ?_)
              clear hK K2
              have HMb := Lib.hid (HMa.out.setCell (p := ⟨p6, 0, none⟩) (Or.inr L17.out) (.int .i64 (many : Int)))
              replace HC := Lib.hid (ownsRow_set HC.out (a := ⟨p6, 0, none⟩) (ownsRow_not HC.out H17.out (by decide)) (.int .i64 (many : Int)))
              replace H16 := Lib.hid (setOther H17.out H16.out (by decide) (.int .i64 (many : Int)))
              replace H18 := Lib.hid (setOther H17.out H18.out (by decide) (.int .i64 (many : Int)))
              replace H3 := Lib.hid (setOther H17.out H3.out (by decide) (.int .i64 (many : Int)))
              replace H17 := Lib.hid (setSame H17.out (.int .i64 (many : Int)))
              clear hSa HMa c6 f6
              generalize va.setCell ⟨p6, 0, none⟩ (.int .i64 (many : Int)) = vb at *
              have f7 : vb.frozen? ⟨p7, 0, none⟩ = false := frozen_of_row _ _ _ _ _ H18.out
              have c7 : vb.cell? ⟨p7, 0, none⟩ = some (.slice none 0 0) := by rw [cell_of_row _ _ _ _ _ _ H18.out]; rfl
              refine wpAnyH_ready (rs := [21]) (by kernel_rfl) (by simp) ?_
              refine AllReadyH.cons rfl (fun K2 hK => ?_) ?_
              · go_simp
                have hSc := setOther H18.out hSb (by decide) (.slice Ac uses.length cc)
                refine hK.out _ _ hSc (fun hHeld => ?_)
                clear hK K2
                have HMc := Lib.hid (HMb.out.setCell (p := ⟨p7, 0, none⟩) (Or.inr L18.out) (.slice Ac uses.length cc))
                replace HC := Lib.hid (ownsRow_set HC.out (a := ⟨p7, 0, none⟩) (ownsRow_not HC.out H18.out (by decide)) (.slice Ac uses.length cc))
                replace H16 := Lib.hid (setOther H18.out H16.out (by decide) (.slice Ac uses.length cc))
                replace H17 := Lib.hid (setOther H18.out H17.out (by decide) (.slice Ac uses.length cc))
                replace H3 := Lib.hid (setOther H18.out H3.out (by decide) (.slice Ac uses.length cc))
                replace H18 := Lib.hid (setSame H18.out (.slice Ac uses.length cc))
                clear hSb HMb c7 f7
                generalize vb.setCell ⟨p7, 0, none⟩ (.slice Ac uses.length cc) = vz at *
                refine wpAnyH_done (by kernel_rfl) ?_ _
                go_wp2_with fail
                go_ret
                exact ⟨p5, p7, w.heap.size, p6, _, rfl, L16.out, L18.out, Nat.le_refl _, L17.out, H16.out, H18.out, H3.out, H17.out, HC.out, HMc.out⟩
              exact AllReadyH.nil
            exact AllReadyH.nil
          exact AllReadyH.nil
        exact AllReadyH.nil
      refine AllReadyH.cons rfl (fun K2 hK => ?_) ?_
      · go_simp
        have hma := (Mods.refl [] v2).alloc (.cells #[.int .i64 0] 3)
        have hS3 := hma.heap hS2 (by simp)
        refine hK.out _ _ hS3 (fun hHeld => ?_)
        clear hK K2
        have HM3 := Lib.hid (HM2.out.trans hma (by simp))
        have HL3 := Lib.hid (ownsRow_mods HL2.out hma (by simp))
        replace H18 := Lib.hid (hma.heap H18.out (by simp))
        replace H3 := Lib.hid (hma.heap H3.out (by simp))
        replace HC := Lib.hid (ownsRow_mods HC.out hma (by simp))
        have H17 := Lib.hid (heap_alloc_new v2 (.cells #[.int .i64 0] 3))
        have L17 := Lib.hid HM2.out.size
        clear hma hS2 HM2 HL2
        generalize v2.alloc (.cells #[.int .i64 0] 3) = v3 at *
        generalize v2.heap.size = p6 at *
        refine wpAnyH_ready (rs := [16]) (by kernel_rfl) (by simp) ?_
        refine AllReadyH.cons rfl (fun K2 hK => ?_) ?_
        · go_simp
          have hma := (Mods.refl [] v3).alloc (.cells #[.int .u8 0] 36)
          have hS4 := hma.heap hS3 (by simp)
          refine hK.out _ _ hS4 (fun hHeld => ?_)
          clear hK K2
          have HM4 := Lib.hid (HM3.out.trans hma (by simp))
          have HL4 := Lib.hid (ownsRow_mods HL3.out hma (by simp))
          replace H17 := Lib.hid (hma.heap H17.out (by simp))
          replace H18 := Lib.hid (hma.heap H18.out (by simp))
          replace H3 := Lib.hid (hma.heap H3.out (by simp))
          replace HC := Lib.hid (ownsRow_mods HC.out hma (by simp))
          have H16 := Lib.hid (heap_alloc_new v3 (.cells #[.int .u8 0] 36))
          have L16 := Lib.hid HM3.out.size
          clear hma hS3 HM3 HL3
          generalize v3.alloc (.cells #[.int .u8 0] 36) = v4 at *
          generalize v3.heap.size = p5 at *
          obtain ⟨Ac, cc, rfl, -⟩ := ownsRow_slice HC.out
          have f5 : v4.frozen? ⟨p5, 0, none⟩ = false := frozen_of_row _ _ _ _ _ H16.out
          have c5 : v4.cell? ⟨p5, 0, none⟩ = some (.int .u8 0) := by rw [cell_of_row _ _ _ _ _ _ H16.out]; rfl
          refine wpAnyH_ready (rs := [19]) (by kernel_rfl) (by simp) ?_
          refine AllReadyH.cons rfl (fun K2 hK => ?_) ?_
          · go_simp
            have hSa := setOther H16.out hS4 (by decide) (.int .u8 (kind : Int))
            refine hK.out _ _ hSa (fun hHeld => ?_)
            clear hK K2
            have HMa := Lib.hid (HM4.out.setCell (p := ⟨p5, 0, none⟩) (Or.inr L16.out) (.int .u8 (kind : Int)))
            replace HC := Lib.hid (ownsRow_set HC.out (a := ⟨p5, 0, none⟩) (ownsRow_not HC.out H16.out (by decide)) (.int .u8 (kind : Int)))
            replace H17 := Lib.hid (setOther H16.out H17.out (by decide) (.int .u8 (kind : Int)))
            replace H18 := Lib.hid (setOther H16.out H18.out (by decide) (.int .u8 (kind : Int)))
            replace H3 := Lib.hid (setOther H16.out H3.out (by decide) (.int .u8 (kind : Int)))
            replace H16 := Lib.hid (setSame H16.out (.int .u8 (kind : Int)))
            clear hS4 HM4 HL4 c5 f5
            generalize v4.setCell ⟨p5, 0, none⟩ (.int .u8 (kind : Int)) = va at *
            have f6 : va.frozen? ⟨p6, 0, none⟩ = false := frozen_of_row _ _ _ _ _ H17.out
            have c6 : va.cell? ⟨p6, 0, none⟩ = some (.int .i64 0) := by rw [cell_of_row _ _ _ _ _ _ H17.out]; rfl
            refine wpAnyH_ready (rs := [20]) (by kernel_rfl) (by simp) ?_
            refine AllReadyH.cons rfl (fun K2 hK => ?_) ?_
            · go_simp
              have hSb := setOther H17.out hSa (by decide) (.int .i64 (many : Int))
              refine hK.out _ _ hSb (fun hHeld => ?_)
              clear hK K2
              have HMb := Lib.hid (HMa.out.setCell (p := ⟨p6, 0, none⟩) (Or.inr L17.out) (.int .i64 (many : Int)))
              replace HC := Lib.hid (ownsRow_set HC.out (a := ⟨p6, 0, none⟩) (ownsRow_not HC.out H17.out (by decide)) (.int .i64 (many : Int)))
              replace H16 := Lib.hid (setOther H17.out H16.out (by decide) (.int .i64 (many : Int)))
              replace H18 := Lib.hid (setOther H17.out H18.out (by decide) (.int .i64 (many : Int)))
              replace H3 := Lib.hid (setOther H17.out H3.out (by decide) (.int .i64 (many : Int)))
              replace H17 := Lib.hid (setSame H17.out (.int .i64 (many : Int)))
              clear hSa HMa c6 f6
              generalize va.setCell ⟨p6, 0, none⟩ (.int .i64 (many : Int)) = vb at *
              have f7 : vb.frozen? ⟨p7, 0, none⟩ = false := frozen_of_row _ _ _ _ _ H18.out
              have c7 : vb.cell? ⟨p7, 0, none⟩ = some (.slice none 0 0) := by rw [cell_of_row _ _ _ _ _ _ H18.out]; rfl
              refine wpAnyH_ready (rs := [21]) (by kernel_rfl) (by simp) ?_
              refine AllReadyH.cons rfl (fun K2 hK => ?_) ?_
              · go_simp
                have hSc := setOther H18.out hSb (by decide) (.slice Ac uses.length cc)
                refine hK.out _ _ hSc (fun hHeld => ?_)
                clear hK K2
                have HMc := Lib.hid (HMb.out.setCell (p := ⟨p7, 0, none⟩) (Or.inr L18.out) (.slice Ac uses.length cc))
                replace HC := Lib.hid (ownsRow_set HC.out (a := ⟨p7, 0, none⟩) (ownsRow_not HC.out H18.out (by decide)) (.slice Ac uses.length cc))
                replace H16 := Lib.hid (setOther H18.out H16.out (by decide) (.slice Ac uses.length cc))
                replace H17 := Lib.hid (setOther H18.out H17.out (by decide) (.slice Ac uses.length cc))
                replace H3 := Lib.hid (setOther H18.out H3.out (by decide) (.slice Ac uses.length cc))
                replace H18 := Lib.hid (setSame H18.out (.slice Ac uses.length cc))
                clear hSb HMb c7 f7
                generalize vb.setCell ⟨p7, 0, none⟩ (.slice Ac uses.length cc) = vz at *
                refine wpAnyH_done (by kernel_rfl) ?_ _
                go_wp2_with fail
                go_ret
                exact ⟨p5, p7, w.heap.size, p6, _, rfl, L16.out, L18.out, Nat.le_refl _, L17.out, H16.out, H18.out, H3.out, H17.out, HC.out, HMc.out⟩
              exact AllReadyH.nil
            exact AllReadyH.nil
          exact AllReadyH.nil
        exact AllReadyH.nil
      exact AllReadyH.nil
    exact AllReadyH.nil
  refine AllReadyH.cons rfl (fun K2 hK => ?_) ?_
  · go_simp
    have hma := (Mods.refl [] v0).alloc (.cells #[.int .u8 0] 36)
    have hS1 := hma.heap hS0 (by simp)
    refine hK.out _ _ hS1 (fun hHeld => ?_)
    clear hK K2
    have HM1 := Lib.hid (HM0.out.trans hma (by simp))
    have HL1 := Lib.hid (ownsRow_mods HL0.out hma (by simp))
    replace H3 := Lib.hid (hma.heap H3.out (by simp))
    have H16 := Lib.hid (heap_alloc_new v0 (.cells #[.int .u8 0] 36))
    have L16 := Lib.hid HM0.out.size
    clear hma hS0 HM0 HL0
    generalize v0.alloc (.cells #[.int .u8 0] 36) = v1 at *
    generalize v0.heap.size = p5 at *
    refine wpAnyH_ready (rs := [15, 17, 18]) (by kernel_rfl) (by simp) ?_
    refine AllReadyH.cons rfl (fun K2 hK => ?_) ?_
    · go_simp
      refine (clone_uses (G := G) uses _ v1 HL1.out hu).mono ?_; rintro e v2 ⟨vc, rfl, hoc, hma⟩
      have hS2 := hma.heap hS1 (by simp)
      refine hK.out _ _ hS2 (fun hHeld => ?_)
      clear hK K2
      have HM2 := Lib.hid (HM1.out.trans hma (by simp))
      have HL2 := Lib.hid (ownsRow_mods HL1.out hma (by simp))
      replace H16 := Lib.hid (hma.heap H16.out (by simp))
      replace H3 := Lib.hid (hma.heap H3.out (by simp))
      have HC := Lib.hid (ownsRow_base hoc HM1.out.size)
      clear hoc hma hS1 HM1 HL1
      refine wpAnyH_ready (rs := [17, 18]) (by kernel_rfl) (by simp) ?_
      refine AllReadyH.cons rfl (fun K2 hK => ?_) ?_
      · go_simp
        have hma := (Mods.refl [] v2).alloc (.cells #[.int .i64 0] 3)
        have hS3 := hma.heap hS2 (by simp)
        refine hK.out _ _ hS3 (fun hHeld => ?_)
        clear hK K2
        have HM3 := Lib.hid (HM2.out.trans hma (by simp))
        have HL3 := Lib.hid (ownsRow_mods HL2.out hma (by simp))
        replace H16 := Lib.hid (hma.heap H16.out (by simp))
        replace H3 := Lib.hid (hma.heap H3.out (by simp))
        replace HC := Lib.hid (ownsRow_mods HC.out hma (by simp))
        have H17 := Lib.hid (heap_alloc_new v2 (.cells #[.int .i64 0] 3))
        have L17 := Lib.hid HM2.out.size
        clear hma hS2 HM2 HL2
        generalize v2.alloc (.cells #[.int .i64 0] 3) = v3 at *
        generalize v2.heap.size = p6 at *
        refine wpAnyH_ready (rs := [18]) (by kernel_rfl) (by simp) ?_
        refine AllReadyH.cons rfl (fun K2 hK => ?_) ?_
        · go_simp
          have hma := (Mods.refl [] v3).alloc (.cells #[.slice none 0 0] 112)
          have hS4 := hma.heap hS3 (by simp)
          refine hK.out _ _ hS4 (fun hHeld => ?_)
          clear hK K2
          have HM4 := Lib.hid (HM3.out.trans hma (by simp))
          have HL4 := Lib.hid (ownsRow_mods HL3.out hma (by simp))
          replace H16 := Lib.hid (hma.heap H16.out (by simp))
          replace H17 := Lib.hid (hma.heap H17.out (by simp))
          replace H3 := Lib.hid (hma.heap H3.out (by simp))
          replace HC := Lib.hid (ownsRow_mods HC.out hma (by simp))
          have H18 := Lib.hid (heap_alloc_new v3 (.cells #[.slice none 0 0] 112))
          have L18 := Lib.hid HM3.out.size
          clear hma hS3 HM3 HL3
          generalize v3.alloc (.cells #[.slice none 0 0] 112) = v4 at *
          generalize v3.heap.size = p7 at *
          obtain ⟨Ac, cc, rfl, -⟩ := ownsRow_slice HC.out
          have f5 : v4.frozen? ⟨p5, 0, none⟩ = false := frozen_of_row _ _ _ _ _ H16.out
          have c5 : v4.cell? ⟨p5, 0, none⟩ = some (.int .u8 0) := by rw [cell_of_row _ _ _ _ _ _ H16.out]; rfl
          refine wpAnyH_ready (rs := [19]) (by kernel_rfl) (by simp) ?_
          refine AllReadyH.cons rfl (fun K2 hK => ?_) ?_
          · go_simp
            have hSa := setOther H16.out hS4 (by decide) (.int .u8 (kind : Int))
            refine hK.out _ _ hSa (fun hHeld => ?_)
            clear hK K2
            have HMa := Lib.hid (HM4.out.setCell (p := ⟨p5, 0, none⟩) (Or.inr L16.out) (.int .u8 (kind : Int)))
            replace HC := Lib.hid (ownsRow_set HC.out (a := ⟨p5, 0, none⟩) (ownsRow_not HC.out H16.out (by decide)) (.int .u8 (kind : Int)))
            replace H17 := Lib.hid (setOther H16.out H17.out (by decide) (.int .u8 (kind : Int)))
            replace H18 := Lib.hid (setOther H16.out H18.out (by decide) (.int .u8 (kind : Int)))
            replace H3 := Lib.hid (setOther H16.out H3.out (by decide) (.int .u8 (kind : Int)))
            replace H16 := Lib.hid (setSame H16.out (.int .u8 (kind : Int)))
            clear hS4 HM4 HL4 c5 f5
            generalize v4.setCell ⟨p5, 0, none⟩ (.int .u8 (kind : Int)) = va at *
            have f6 : va.frozen? ⟨p6, 0, none⟩ = false := frozen_of_row _ _ _ _ _ H17.out
            have c6 : va.cell? ⟨p6, 0, none⟩ = some (.int .i64 0) := by rw [cell_of_row _ _ _ _ _ _ H17.out]; rfl
            refine wpAnyH_ready (rs := [20]) (by kernel_rfl) (by simp) ?_
            refine AllReadyH.cons rfl (fun K2 hK => ?_) ?_
            · go_simp
              have hSb := setOther H17.out hSa (by decide) (.int .i64 (many : Int))
              refine hK.out _ _ hSb (fun hHeld => ?_)
              clear hK K2
              have HMb := Lib.hid (HMa.out.setCell (p := ⟨p6, 0, none⟩) (Or.inr L17.out) (.int .i64 (many : Int)))
              replace HC := Lib.hid (ownsRow_set HC.out (a := ⟨p6, 0, none⟩) (ownsRow_not HC.out H17.out (by decide)) (.int .i64 (many : Int)))
              replace H16 := Lib.hid (setOther H17.out H16.out (by decide) (.int .i64 (many : Int)))
              replace H18 := Lib.hid (setOther H17.out H18.out (by decide) (.int .i64 (many : Int)))
              replace H3 := Lib.hid (setOther H17.out H3.out (by decide) (.int .i64 (many : Int)))
              replace H17 := Lib.hid (setSame H17.out (.int .i64 (many : Int)))
              clear hSa HMa c6 f6
              generalize va.setCell ⟨p6, 0, none⟩ (.int .i64 (many : Int)) = vb at *
              have f7 : vb.frozen? ⟨p7, 0, none⟩ = false := frozen_of_row _ _ _ _ _ H18.out
              have c7 : vb.cell? ⟨p7, 0, none⟩ = some (.slice none 0 0) := by rw [cell_of_row _ _ _ _ _ _ H18.out]; rfl
              refine wpAnyH_ready (rs := [21]) (by kernel_rfl) (by simp) ?_
              refine AllReadyH.cons rfl (fun K2 hK => ?_) ?_
              · go_simp
                have hSc := setOther H18.out hSb (by decide) (.slice Ac uses.length cc)
                refine hK.out _ _ hSc (fun hHeld => ?_)
                clear hK K2
                have HMc := Lib.hid (HMb.out.setCell (p := ⟨p7, 0, none⟩) (Or.inr L18.out) (.slice Ac uses.length cc))
                replace HC := Lib.hid (ownsRow_set HC.out (a := ⟨p7, 0, none⟩) (ownsRow_not HC.out H18.out (by decide)) (.slice Ac uses.length cc))
                replace H16 := Lib.hid (setOther H18.out H16.out (by decide) (.slice Ac uses.length cc))
                replace H17 := Lib.hid (setOther H18.out H17.out (by decide) (.slice Ac uses.length cc))
                replace H3 := Lib.hid (setOther H18.out H3.out (by decide) (.slice Ac uses.length cc))
                replace H18 := Lib.hid (setSame H18.out (.slice Ac uses.length cc))
                clear hSb HMb c7 f7
                generalize vb.setCell ⟨p7, 0, none⟩ (.slice Ac uses.length cc) = vz at *
                refine wpAnyH_done (by kernel_rfl) ?_ _
                go_wp2_with fail
                go_ret
                exact ⟨p5, p7, w.heap.size, p6, _, rfl, L16.out, L18.out, Nat.le_refl _, L17.out, H16.out, H18.out, H3.out, H17.out, HC.out, HMc.out⟩
              exact AllReadyH.nil
            exact AllReadyH.nil
          exact AllReadyH.nil
        exact AllReadyH.nil
      refine AllReadyH.cons rfl (fun K2 hK => ?_) ?_
      · go_simp
        have hma := (Mods.refl [] v2).alloc (.cells #[.slice none 0 0] 112)
        have hS3 := hma.heap hS2 (by simp)
        refine hK.out _ _ hS3 (fun hHeld => ?_)
        clear hK K2
        have HM3 := Lib.hid (HM2.out.trans hma (by simp))
        have HL3 := Lib.hid (ownsRow_mods HL2.out hma (by simp))
        replace H16 := Lib.hid (hma.heap H16.out (by simp))
        replace H3 := Lib.hid (hma.heap H3.out (by simp))
        replace HC := Lib.hid (ownsRow_mods HC.out hma (by simp))
        have H18 := Lib.hid (heap_alloc_new v2 (.cells #[.slice none 0 0] 112))
        have L18 := Lib.hid HM2.out.size
        clear hma hS2 HM2 HL2
        generalize v2.alloc (.cells #[.slice none 0 0] 112) = v3 at *
        generalize v2.heap.size = p7 at *
        refine wpAnyH_ready (rs := [17]) (by kernel_rfl) (by simp) ?_
        refine AllReadyH.cons rfl (fun K2 hK => ?_) ?_
        · go_simp
          have hma := (Mods.refl [] v3).alloc (.cells #[.int .i64 0] 3)
          have hS4 := hma.heap hS3 (by simp)
          refine hK.out _ _ hS4 (fun hHeld => ?_)
          clear hK K2
          have HM4 := Lib.hid (HM3.out.trans hma (by simp))
          have HL4 := Lib.hid (ownsRow_mods HL3.out hma (by simp))
          replace H16 := Lib.hid (hma.heap H16.out (by simp))
          replace H18 := Lib.hid (hma.heap H18.out (by simp))
          replace H3 := Lib.hid (hma.heap H3.out (by simp))
          replace HC := Lib.hid (ownsRow_mods HC.out hma (by simp))
          have H17 := Lib.hid (heap_alloc_new v3 (.cells #[.int .i64 0] 3))
          have L17 := Lib.hid HM3.out.size
          clear hma hS3 HM3 HL3
          generalize v3.alloc (.cells #[.int .i64 0] 3) = v4 at *
          generalize v3.heap.size = p6 at *
          obtain ⟨Ac, cc, rfl, -⟩ := ownsRow_slice HC.out
          have f5 : v4.frozen? ⟨p5, 0, none⟩ = false := frozen_of_row _ _ _ _ _ H16.out
          have c5 : v4.cell? ⟨p5, 0, none⟩ = some (.int .u8 0) := by rw [cell_of_row _ _ _ _ _ _ H16.out]; rfl
          refine wpAnyH_ready (rs := [19]) (by kernel_rfl) (by simp) ?_
          refine AllReadyH.cons rfl (fun K2 hK => ?_) ?_
          · go_simp
            have hSa := setOther H16.out hS4 (by decide) (.int .u8 (kind : Int))
            refine hK.out _ _ hSa (fun hHeld => ?_)
            clear hK K2
            have HMa := Lib.hid (HM4.out.setCell (p := ⟨p5, 0, none⟩) (Or.inr L16.out) (.int .u8 (kind : Int)))
            replace HC := Lib.hid (ownsRow_set HC.out (a := ⟨p5, 0, none⟩) (ownsRow_not HC.out H16.out (by decide)) (.int .u8 (kind : Int)))
            replace H17 := Lib.hid (setOther H16.out H17.out (by decide) (.int .u8 (kind : Int)))
            replace H18 := Lib.hid (setOther H16.out H18.out (by decide) (.int .u8 (kind : Int)))
            replace H3 := Lib.hid (setOther H16.out H3.out (by decide) (.int .u8 (kind : Int)))
            replace H16 := Lib.hid (setSame H16.out (.int .u8 (kind : Int)))
            clear hS4 HM4 HL4 c5 f5
            generalize v4.setCell ⟨p5, 0, none⟩ (.int .u8 (kind : Int)) = va at *
            have f6 : va.frozen? ⟨p6, 0, none⟩ = false := frozen_of_row _ _ _ _ _ H17.out
            have c6 : va.cell? ⟨p6, 0, none⟩ = some (.int .i64 0) := by rw [cell_of_row _ _ _ _ _ _ H17.out]; rfl
            refine wpAnyH_ready (rs := [20]) (by kernel_rfl) (by simp) ?_
            refine AllReadyH.cons rfl (fun K2 hK => ?_) ?_
            · go_simp
              have hSb := setOther H17.out hSa (by decide) (.int .i64 (many : Int))
              refine hK.out _ _ hSb (fun hHeld => ?_)
              clear hK K2
              have HMb := Lib.hid (HMa.out.setCell (p := ⟨p6, 0, none⟩) (Or.inr L17.out) (.int .i64 (many : Int)))
              replace HC := Lib.hid (ownsRow_set HC.out (a := ⟨p6, 0, none⟩) (ownsRow_not HC.out H17.out (by decide)) (.int .i64 (many : Int)))
              replace H16 := Lib.hid (setOther H17.out H16.out (by decide) (.int .i64 (many : Int)))
              replace H18 := Lib.hid (setOther H17.out H18.out (by decide) (.int .i64 (many : Int)))
              replace H3 := Lib.hid (setOther H17.out H3.out (by decide) (.int .i64 (many : Int)))
              replace H17 := Lib.hid (setSame H17.out (.int .i64 (many : Int)))
              clear hSa HMa c6 f6
              generalize va.setCell ⟨p6, 0, none⟩ (.int .i64 (many : Int)) = vb at *
              have f7 : vb.frozen? ⟨p7, 0, none⟩ = false := frozen_of_row _ _ _ _ _ H18.out
              have c7 : vb.cell? ⟨p7, 0, none⟩ = some (.slice none 0 0) := by rw [cell_of_row _ _ _ _ _ _ H18.out]; rfl
              refine wpAnyH_ready (rs := [21]) (by kernel_rfl) (by simp) ?_
              refine AllReadyH.cons rfl (fun K2 hK => ?_) ?_
              · go_simp
                have hSc := setOther H18.out hSb (by decide) (.slice Ac uses.length cc)
                refine hK.out _ _ hSc (fun hHeld => ?_)
                clear hK K2
                have HMc := Lib.hid (HMb.out.setCell (p := ⟨p7, 0, none⟩) (Or.inr L18.out) (.slice Ac uses.length cc))
                replace HC := Lib.hid (ownsRow_set HC.out (a := ⟨p7, 0, none⟩) (ownsRow_not HC.out H18.out (by decide)) (.slice Ac uses.length cc))
                replace H16 := Lib.hid (setOther H18.out H16.out (by decide) (.slice Ac uses.length cc))
                replace H17 := Lib.hid (setOther H18.out H17.out (by decide) (.slice Ac uses.length cc))
                replace H3 := Lib.hid (setOther H18.out H3.out (by decide) (.slice Ac uses.length cc))
                replace H18 := Lib.hid (setSame H18.out (.slice Ac uses.length cc))
                clear hSb HMb c7 f7
                generalize vb.setCell ⟨p7, 0, none⟩ (.slice Ac uses.length cc) = vz at *
                refine wpAnyH_done (by kernel_rfl) ?_ _
                go_wp2_with fail
                go_ret
                exact ⟨p5, p7, w.heap.size, p6, _, rfl, L16.out, L18.out, Nat.le_refl _, L17.out, H16.out, H18.out, H3.out, H17.out, HC.out, HMc.out⟩
              exact AllReadyH.nil
            exact AllReadyH.nil
          exact AllReadyH.nil
        exact AllReadyH.nil
      exact AllReadyH.nil
    refine AllReadyH.cons rfl (fun K2 hK => ?_) ?_
    · go_simp
      have hma := (Mods.refl [] v1).alloc (.cells #[.int .i64 0] 3)
      have hS2 := hma.heap hS1 (by simp)
      refine hK.out _ _ hS2 (fun hHeld => ?_)
      clear hK K2
      have HM2 := Lib.hid (HM1.out.trans hma (by simp))
      have HL2 := Lib.hid (ownsRow_mods HL1.out hma (by simp))
      replace H16 := Lib.hid (hma.heap H16.out (by simp))
      replace H3 := Lib.hid (hma.heap H3.out (by simp))
      have H17 := Lib.hid (heap_alloc_new v1 (.cells #[.int .i64 0] 3))
      have L17 := Lib.hid HM1.out.size
      clear hma hS1 HM1 HL1
      generalize v1.alloc (.cells #[.int .i64 0] 3) = v2 at *
      generalize v1.heap.size = p6 at *
      refine wpAnyH_ready (rs := [15, 18]) (by kernel_rfl) (by simp) ?_
      refine AllReadyH.cons rfl (fun K2 hK => ?_) ?_
      · go_simp
        refine (clone_uses (G := G) uses _ v2 HL2.out hu).mono ?_; rintro e v3 ⟨vc, rfl, hoc, hma⟩
        have hS3 := hma.heap hS2 (by simp)
        refine hK.out _ _ hS3 (fun hHeld => ?_)
        clear hK K2
        have HM3 := Lib.hid (HM2.out.trans hma (by simp))
        have HL3 := Lib.hid (ownsRow_mods HL2.out hma (by simp))
        replace H16 := Lib.hid (hma.heap H16.out (by simp))
        replace H17 := Lib.hid (hma.heap H17.out (by simp))
        replace H3 := Lib.hid (hma.heap H3.out (by simp))
        have HC := Lib.hid (ownsRow_base hoc HM2.out.size)
        clear hoc hma hS2 HM2 HL2
        refine wpAnyH_ready (rs := [18]) (by kernel_rfl) (by simp) ?_
        refine AllReadyH.cons rfl (fun K2 hK => ?_) ?_
        · go_simp
          have hma := (Mods.refl [] v3).alloc (.cells #[.slice none 0 0] 112)
          have hS4 := hma.heap hS3 (by simp)
          refine hK.out _ _ hS4 (fun hHeld => ?_)
          clear hK K2
          have HM4 := Lib.hid (HM3.out.trans hma (by simp))
          have HL4 := Lib.hid (ownsRow_mods HL3.out hma (by simp))
          replace H16 := Lib.hid (hma.heap H16.out (by simp))
          replace H17 := Lib.hid (hma.heap H17.out (by simp))
          replace H3 := Lib.hid (hma.heap H3.out (by simp))
          replace HC := Lib.hid (ownsRow_mods HC.out hma (by simp))
          have H18 := Lib.hid (heap_alloc_new v3 (.cells #[.slice none 0 0] 112))
          have L18 := Lib.hid HM3.out.size
          clear hma hS3 HM3 HL3
          generalize v3.alloc (.cells #[.slice none 0 0] 112) = v4 at *
          generalize v3.heap.size = p7 at *
          obtain ⟨Ac, cc, rfl, -⟩ := ownsRow_slice HC.out
          have f5 : v4.frozen? ⟨p5, 0, none⟩ = false := frozen_of_row _ _ _ _ _ H16.out
          have c5 : v4.cell? ⟨p5, 0, none⟩ = some (.int .u8 0) := by rw [cell_of_row _ _ _ _ _ _ H16.out]; rfl
          refine wpAnyH_ready (rs := [19]) (by kernel_rfl) (by simp) ?_
          refine AllReadyH.cons rfl (fun K2 hK => ?_) ?_
          · go_simp
            have hSa := setOther H16.out hS4 (by decide) (.int .u8 (kind : Int))
            refine hK.out _ _ hSa (fun hHeld => ?_)
            clear hK K2
            have HMa := Lib.hid (HM4.out.setCell (p := ⟨p5, 0, none⟩) (Or.inr L16.out) (.int .u8 (kind : Int)))
            replace HC := Lib.hid (ownsRow_set HC.out (a := ⟨p5, 0, none⟩) (ownsRow_not HC.out H16.out (by decide)) (.int .u8 (kind : Int)))
            replace H17 := Lib.hid (setOther H16.out H17.out (by decide) (.int .u8 (kind : Int)))
            replace H18 := Lib.hid (setOther H16.out H18.out (by decide) (.int .u8 (kind : Int)))
            replace H3 := Lib.hid (setOther H16.out H3.out (by decide) (.int .u8 (kind : Int)))
            replace H16 := Lib.hid (setSame H16.out (.int .u8 (kind : Int)))
            clear hS4 HM4 HL4 c5 f5
            generalize v4.setCell ⟨p5, 0, none⟩ (.int .u8 (kind : Int)) = va at *
            have f6 : va.frozen? ⟨p6, 0, none⟩ = false := frozen_of_row _ _ _ _ _ H17.out
            have c6 : va.cell? ⟨p6, 0, none⟩ = some (.int .i64 0) := by rw [cell_of_row _ _ _ _ _ _ H17.out]; rfl
            refine wpAnyH_ready (rs := [20]) (by kernel_rfl) (by simp) ?_
            refine AllReadyH.cons rfl (fun K2 hK => ?_) ?_
            · go_simp
              have hSb := setOther H17.out hSa (by decide) (.int .i64 (many : Int))
              refine hK.out _ _ hSb (fun hHeld => ?_)
              clear hK K2
              have HMb := Lib.hid (HMa.out.setCell (p := ⟨p6, 0, none⟩) (Or.inr L17.out) (.int .i64 (many : Int)))
              replace HC := Lib.hid (ownsRow_set HC.out (a := ⟨p6, 0, none⟩) (ownsRow_not HC.out H17.out (by decide)) (.int .i64 (many : Int)))
              replace H16 := Lib.hid (setOther H17.out H16.out (by decide) (.int .i64 (many : Int)))
              replace H18 := Lib.hid (setOther H17.out H18.out (by decide) (.int .i64 (many : Int)))
              replace H3 := Lib.hid (setOther H17.out H3.out (by decide) (.int .i64 (many : Int)))
              replace H17 := Lib.hid (setSame H17.out (.int .i64 (many : Int)))
              clear hSa HMa c6 f6
              generalize va.setCell ⟨p6, 0, none⟩ (.int .i64 (many : Int)) = vb at *
              have f7 : vb.frozen? ⟨p7, 0, none⟩ = false := frozen_of_row _ _ _ _ _ H18.out
              have c7 : vb.cell? ⟨p7, 0, none⟩ = some (.slice none 0 0) := by rw [cell_of_row _ _ _ _ _ _ H18.out]; rfl
              refine wpAnyH_ready (rs := [21]) (by kernel_rfl) (by simp) ?_
              refine AllReadyH.cons rfl (fun K2 hK => ?_) ?_
              · go_simp
                have hSc := setOther H18.out hSb (by decide) (.slice Ac uses.length cc)
                refine hK.out _ _ hSc (fun hHeld => ?_)
                clear hK K2
                have HMc := Lib.hid (HMb.out.setCell (p := ⟨p7, 0, none⟩) (Or.inr L18.out) (.slice Ac uses.length cc))
                replace HC := Lib.hid (ownsRow_set HC.out (a := ⟨p7, 0, none⟩) (ownsRow_not HC.out H18.out (by decide)) (.slice Ac uses.length cc))
                replace H16 := Lib.hid (setOther H18.out H16.out (by decide) (.slice Ac uses.length cc))
                replace H17 := Lib.hid (setOther H18.out H17.out (by decide) (.slice Ac uses.length cc))
                replace H3 := Lib.hid (setOther H18.out H3.out (by decide) (.slice Ac uses.length cc))
                replace H18 := Lib.hid (setSame H18.out (.slice Ac uses.length cc))
                clear hSb HMb c7 f7
                generalize vb.setCell ⟨p7, 0, none⟩ (.slice Ac uses.length cc) = vz at *
                refine wpAnyH_done (by kernel_rfl) ?_ _
                go_wp2_with fail
                go_ret
                exact ⟨p5, p7, w.heap.size, p6, _, rfl, L16.out, L18.out, Nat.le_refl _, L17.out, H16.out, H18.out, H3.out, H17.out, HC.out, HMc.out⟩
              exact AllReadyH.nil
            exact AllReadyH.nil
          exact AllReadyH.nil
        exact AllReadyH.nil
      refine AllReadyH.cons rfl (fun K2 hK => ?_) ?_
      · go_simp
        have hma := (Mods.refl [] v2).alloc (.cells #[.slice none 0 0] 112)
        have hS3 := hma.heap hS2 (by simp)
        refine hK.out _ _ hS3 (fun hHeld => ?_)
        clear hK K2
        have HM3 := Lib.hid (HM2.out.trans hma (by simp))
        have HL3 := Lib.hid (ownsRow_mods HL2.out hma (by simp))
        replace H16 := Lib.hid (hma.heap H16.out (by simp))
        replace H17 := Lib.hid (hma.heap H17.out (by simp))
        replace H3 := Lib.hid (hma.heap H3.out (by simp))
        have H18 := Lib.hid (heap_alloc_new v2 (.cells #[.slice none 0 0] 112))
        have L18 := Lib.hid HM2.out.size
        clear hma hS2 HM2 HL2
        generalize v2.alloc (.cells #[.slice none 0 0] 112) = v3 at *
        generalize v2.heap.size = p7 at *
        refine wpAnyH_ready (rs := [15]) (by kernel_rfl) (by simp) ?_
        refine AllReadyH.cons rfl (fun K2 hK => ?_) ?_
        · go_simp
          refine (clone_uses (G := G) uses _ v3 HL3.out hu).mono ?_; rintro e v4 ⟨vc, rfl, hoc, hma⟩
          have hS4 := hma.heap hS3 (by simp)
          refine hK.out _ _ hS4 (fun hHeld => ?_)
          clear hK K2
          have HM4 := Lib.hid (HM3.out.trans hma (by simp))
          have HL4 := Lib.hid (ownsRow_mods HL3.out hma (by simp))
          replace H16 := Lib.hid (hma.heap H16.out (by simp))
          replace H17 := Lib.hid (hma.heap H17.out (by simp))
          replace H18 := Lib.hid (hma.heap H18.out (by simp))
          replace H3 := Lib.hid (hma.heap H3.out (by simp))
          have HC := Lib.hid (ownsRow_base hoc HM3.out.size)
          clear hoc hma hS3 HM3 HL3
          obtain ⟨Ac, cc, rfl, -⟩ := ownsRow_slice HC.out
          have f5 : v4.frozen? ⟨p5, 0, none⟩ = false := frozen_of_row _ _ _ _ _ H16.out
          have c5 : v4.cell? ⟨p5, 0, none⟩ = some (.int .u8 0) := by rw [cell_of_row _ _ _ _ _ _ H16.out]; rfl
          refine wpAnyH_ready (rs := [19]) (by kernel_rfl) (by simp) ?_
          refine AllReadyH.cons rfl (fun K2 hK => ?_) ?_
          · go_simp
            have hSa := setOther H16.out hS4 (by decide) (.int .u8 (kind : Int))
            refine hK.out _ _ hSa (fun hHeld => ?_)
            clear hK K2
            have HMa := Lib.hid (HM4.out.setCell (p := ⟨p5, 0, none⟩) (Or.inr L16.out) (.int .u8 (kind : Int)))
            replace HC := Lib.hid (ownsRow_set HC.out (a := ⟨p5, 0, none⟩) (ownsRow_not HC.out H16.out (by decide)) (.int .u8 (kind : Int)))
            replace H17 := Lib.hid (setOther H16.out H17.out (by decide) (.int .u8 (kind : Int)))
            replace H18 := Lib.hid (setOther H16.out H18.out (by decide) (.int .u8 (kind : Int)))
            replace H3 := Lib.hid (setOther H16.out H3.out (by decide) (.int .u8 (kind : Int)))
            replace H16 := Lib.hid (setSame H16.out (.int .u8 (kind : Int)))
            clear hS4 HM4 HL4 c5 f5
            generalize v4.setCell ⟨p5, 0, none⟩ (.int .u8 (kind : Int)) = va at *
            have f6 : va.frozen? ⟨p6, 0, none⟩ = false := frozen_of_row _ _ _ _ _ H17.out
            have c6 : va.cell? ⟨p6, 0, none⟩ = some (.int .i64 0) := by rw [cell_of_row _ _ _ _ _ _ H17.out]; rfl
            refine wpAnyH_ready (rs := [20]) (by kernel_rfl) (by simp) ?_
            refine AllReadyH.cons rfl (fun K2 hK => ?_) ?_
            · go_simp
              have hSb := setOther H17.out hSa (by decide) (.int .i64 (many : Int))
              refine hK.out _ _ hSb (fun hHeld => ?_)
              clear hK K2
              have HMb := Lib.hid (HMa.out.setCell (p := ⟨p6, 0, none⟩) (Or.inr L17.out) (.int .i64 (many : Int)))
              replace HC := Lib.hid (ownsRow_set HC.out (a := ⟨p6, 0, none⟩) (ownsRow_not HC.out H17.out (by decide)) (.int .i64 (many : Int)))
              replace H16 := Lib.hid (setOther H17.out H16.out (by decide) (.int .i64 (many : Int)))
              replace H18 := Lib.hid (setOther H17.out H18.out (by decide) (.int .i64 (many : Int)))
              replace H3 := Lib.hid (setOther H17.out H3.out (by decide) (.int .i64 (many : Int)))
              replace H17 := Lib.hid (setSame H17.out (.int .i64 (many : Int)))
              clear hSa HMa c6 f6
              generalize va.setCell ⟨p6, 0, none⟩ (.int .i64 (many : Int)) = vb at *
              have f7 : vb.frozen? ⟨p7, 0, none⟩ = false := frozen_of_row _ _ _ _ _ H18.out
              have c7 : vb.cell? ⟨p7, 0, none⟩ = some (.slice none 0 0) := by rw [cell_of_row _ _ _ _ _ _ H18.out]; rfl
              refine wpAnyH_ready (rs := [21]) (by kernel_rfl) (by simp) ?_
              refine AllReadyH.cons rfl (fun K2 hK => ?_) ?_
              · go_simp
                have hSc := setOther H18.out hSb (by decide) (.slice Ac uses.length cc)
                refine hK.out _ _ hSc (fun hHeld => ?_)
                clear hK K2
                have HMc := Lib.hid (HMb.out.setCell (p := ⟨p7, 0, none⟩) (Or.inr L18.out) (.slice Ac uses.length cc))
                replace HC := Lib.hid (ownsRow_set HC.out (a := ⟨p7, 0, none⟩) (ownsRow_not HC.out H18.out (by decide)) (.slice Ac uses.length cc))
                replace H16 := Lib.hid (setOther H18.out H16.out (by decide) (.slice Ac uses.length cc))
                replace H17 := Lib.hid (setOther H18.out H17.out (by decide) (.slice Ac uses.length cc))
                replace H3 := Lib.hid (setOther H18.out H3.out (by decide) (.slice Ac uses.length cc))
                replace H18 := Lib.hid (setSame H18.out (.slice Ac uses.length cc))
                clear hSb HMb c7 f7
                generalize vb.setCell ⟨p7, 0, none⟩ (.slice Ac uses.length cc) = vz at *
                refine wpAnyH_done (by kernel_rfl) ?_ _
                go_wp2_with fail
                go_ret
                exact ⟨p5, p7, w.heap.size, p6, _, rfl, L16.out, L18.out, Nat.le_refl _, L17.out, H16.out, H18.out, H3.out, H17.out, HC.out, HMc.out⟩
              exact AllReadyH.nil
            exact AllReadyH.nil
          exact AllReadyH.nil
        exact AllReadyH.nil
      exact AllReadyH.nil
    refine AllReadyH.cons rfl (fun K2 hK => ?_) ?_
    · go_simp
      have hma := (Mods.refl [] v1).alloc (.cells #[.slice none 0 0] 112)
      have hS2 := hma.heap hS1 (by simp)
      refine hK.out _ _ hS2 (fun hHeld => ?_)
      clear hK K2
      have HM2 := Lib.hid (HM1.out.trans hma (by simp))
      have HL2 := Lib.hid (ownsRow_mods HL1.out hma (by simp))
      replace H16 := Lib.hid (hma.heap H16.out (by simp))
      replace H3 := Lib.hid (hma.heap H3.out (by simp))
      have H18 := Lib.hid (heap_alloc_new v1 (.cells #[.slice none 0 0] 112))
      have L18 := Lib.hid HM1.out.size
      clear hma hS1 HM1 HL1
      generalize v1.alloc (.cells #[.slice none 0 0] 112) = v2 at *
      generalize v1.heap.size = p7 at *
      refine wpAnyH_ready (rs := [15, 17]) (by kernel_rfl) (by simp) ?_
      refine AllReadyH.cons rfl (fun K2 hK => ?_) ?_
      · go_simp
        refine (clone_uses (G := G) uses _ v2 HL2.out hu).mono ?_; rintro e v3 ⟨vc, rfl, hoc, hma⟩
        have hS3 := hma.heap hS2 (by simp)
        refine hK.out _ _ hS3 (fun hHeld => ?_)
        clear hK K2
        have HM3 := Lib.hid (HM2.out.trans hma (by simp))
        have HL3 := Lib.hid (ownsRow_mods HL2.out hma (by simp))
        replace H16 := Lib.hid (hma.heap H16.out (by simp))
        replace H18 := Lib.hid (hma.heap H18.out (by simp))
        replace H3 := Lib.hid (hma.heap H3.out (by simp))
        have HC := Lib.hid (ownsRow_base hoc HM2.out.size)
        clear hoc hma hS2 HM2 HL2
        refine wpAnyH_ready (rs := [17]) (by kernel_rfl) (by simp) ?_
        refine AllReadyH.cons rfl (fun K2 hK => ?_) ?_
        · go_simp
          have hma := (Mods.refl [] v3).alloc (.cells #[.int .i64 0] 3)
          have hS4 := hma.heap hS3 (by simp)
          refine hK.out _ _ hS4 (fun hHeld => ?_)
          clear hK K2
          have HM4 := Lib.hid (HM3.out.trans hma (by simp))
          have HL4 := Lib.hid (ownsRow_mods HL3.out hma (by simp))
          replace H16 := Lib.hid (hma.heap H16.out (by simp))
          replace H18 := Lib.hid (hma.heap H18.out (by simp))
          replace H3 := Lib.hid (hma.heap H3.out (by simp))
          replace HC := Lib.hid (ownsRow_mods HC.out hma (by simp))
          have H17 := Lib.hid (heap_alloc_new v3 (.cells #[.int .i64 0] 3))
          have L17 := Lib.hid HM3.out.size
          clear hma hS3 HM3 HL3
          generalize v3.alloc (.cells #[.int .i64 0] 3) = v4 at *
          generalize v3.heap.size = p6 at *
          obtain ⟨Ac, cc, rfl, -⟩ := ownsRow_slice HC.out
          have f5 : v4.frozen? ⟨p5, 0, none⟩ = false := frozen_of_row _ _ _ _ _ H16.out
          have c5 : v4.cell? ⟨p5, 0, none⟩ = some (.int .u8 0) := by rw [cell_of_row _ _ _ _ _ _ H16.out]; rfl
          refine wpAnyH_ready (rs := [19]) (by kernel_rfl) (by simp) ?_
          refine AllReadyH.cons rfl (fun K2 hK => ?_) ?_
          · go_simp
            have hSa := setOther H16.out hS4 (by decide) (.int .u8 (kind : Int))
            refine hK.out _ _ hSa (fun hHeld => ?_)
            clear hK K2
            have HMa := Lib.hid (HM4.out.setCell (p := ⟨p5, 0, none⟩) (Or.inr L16.out) (.int .u8 (kind : Int)))
            replace HC := Lib.hid (ownsRow_set HC.out (a := ⟨p5, 0, none⟩) (ownsRow_not HC.out H16.out (by decide)) (.int .u8 (kind : Int)))
            replace H17 := Lib.hid (setOther H16.out H17.out (by decide) (.int .u8 (kind : Int)))
            replace H18 := Lib.hid (setOther H16.out H18.out (by decide) (.int .u8 (kind : Int)))
            replace H3 := Lib.hid (setOther H16.out H3.out (by decide) (.int .u8 (kind : Int)))
            replace H16 := Lib.hid (setSame H16.out (.int .u8 (kind : Int)))
            clear hS4 HM4 HL4 c5 f5
            generalize v4.setCell ⟨p5, 0, none⟩ (.int .u8 (kind : Int)) = va at *
            have f6 : va.frozen? ⟨p6, 0, none⟩ = false := frozen_of_row _ _ _ _ _ H17.out
            have c6 : va.cell? ⟨p6, 0, none⟩ = some (.int .i64 0) := by rw [cell_of_row _ _ _ _ _ _ H17.out]; rfl
            refine wpAnyH_ready (rs := [20]) (by kernel_rfl) (by simp) ?_
            refine AllReadyH.cons rfl (fun K2 hK => ?_) ?_
            · go_simp
              have hSb := setOther H17.out hSa (by decide) (.int .i64 (many : Int))
              refine hK.out _ _ hSb (fun hHeld => ?_)
              clear hK K2
              have HMb := Lib.hid (HMa.out.setCell (p := ⟨p6, 0, none⟩) (Or.inr L17.out) (.int .i64 (many : Int)))
              replace HC := Lib.hid (ownsRow_set HC.out (a := ⟨p6, 0, none⟩) (ownsRow_not HC.out H17.out (by decide)) (.int .i64 (many : Int)))
              replace H16 := Lib.hid (setOther H17.out H16.out (by decide) (.int .i64 (many : Int)))
              replace H18 := Lib.hid (setOther H17.out H18.out (by decide) (.int .i64 (many : Int)))
              replace H3 := Lib.hid (setOther H17.out H3.out (by decide) (.int .i64 (many : Int)))
              replace H17 := Lib.hid (setSame H17.out (.int .i64 (many : Int)))
              clear hSa HMa c6 f6
              generalize va.setCell ⟨p6, 0, none⟩ (.int .i64 (many : Int)) = vb at *
              have f7 : vb.frozen? ⟨p7, 0, none⟩ = false := frozen_of_row _ _ _ _ _ H18.out
              have c7 : vb.cell? ⟨p7, 0, none⟩ = some (.slice none 0 0) := by rw [cell_of_row _ _ _ _ _ _ H18.out]; rfl
              refine wpAnyH_ready (rs := [21]) (by kernel_rfl) (by simp) ?_
              refine AllReadyH.cons rfl (fun K2 hK => ?_) ?_
              · go_simp
                have hSc := setOther H18.out hSb (by decide) (.slice Ac uses.length cc)
                refine hK.out _ _ hSc (fun hHeld => ?_)
                clear hK K2
                have HMc := Lib.hid (HMb.out.setCell (p := ⟨p7, 0, none⟩) (Or.inr L18.out) (.slice Ac uses.length cc))
                replace HC := Lib.hid (ownsRow_set HC.out (a := ⟨p7, 0, none⟩) (ownsRow_not HC.out H18.out (by decide)) (.slice Ac uses.length cc))
                replace H16 := Lib.hid (setOther H18.out H16.out (by decide) (.slice Ac uses.length cc))
                replace H17 := Lib.hid (setOther H18.out H17.out (by decide) (.slice Ac uses.length cc))
                replace H3 := Lib.hid (setOther H18.out H3.out (by decide) (.slice Ac uses.length cc))
                replace H18 := Lib.hid (setSame H18.out (.slice Ac uses.length cc))
                clear hSb HMb c7 f7
                generalize vb.setCell ⟨p7, 0, none⟩ (.slice Ac uses.length cc) = vz at *
                refine wpAnyH_done (by kernel_rfl) ?_ _
                go_wp2_with fail
                go_ret
                exact ⟨p5, p7, w.heap.size, p6, _, rfl, L16.out, L18.out, Nat.le_refl _, L17.out, H16.out, H18.out, H3.out, H17.out, HC.out, HMc.out⟩
              exact AllReadyH.nil
            exact AllReadyH.nil
          exact AllReadyH.nil
        exact AllReadyH.nil
      refine AllReadyH.cons rfl (fun K2 hK => ?_) ?_
      · go_simp
        have hma := (Mods.refl [] v2).alloc (.cells #[.int .i64 0] 3)
        have hS3 := hma.heap hS2 (by simp)
        refine hK.out _ _ hS3 (fun hHeld => ?_)
        clear hK K2
        have HM3 := Lib.hid (HM2.out.trans hma (by simp))
        have HL3 := Lib.hid (ownsRow_mods HL2.out hma (by simp))
        replace H16 := Lib.hid (hma.heap H16.out (by simp))
        replace H18 := Lib.hid (hma.heap H18.out (by simp))
        replace H3 := Lib.hid (hma.heap H3.out (by simp))
        have H17 := Lib.hid (heap_alloc_new v2 (.cells #[.int .i64 0] 3))
        have L17 := Lib.hid HM2.out.size
        clear hma hS2 HM2 HL2
        generalize v2.alloc (.cells #[.int .i64 0] 3) = v3 at *
        generalize v2.heap.size = p6 at *
        refine wpAnyH_ready (rs := [15]) (by kernel_rfl) (by simp) ?_
        refine AllReadyH.cons rfl (fun K2 hK => ?_) ?_
        · go_simp
          refine (clone_uses (G := G) uses _ v3 HL3.out hu).mono ?_; rintro e v4 ⟨vc, rfl, hoc, hma⟩
          have hS4 := hma.heap hS3 (by simp)
          refine hK.out _ _ hS4 (fun hHeld => ?_)
          clear hK K2
          have HM4 := Lib.hid (HM3.out.trans hma (by simp))
          have HL4 := Lib.hid (ownsRow_mods HL3.out hma (by simp))
          replace H16 := Lib.hid (hma.heap H16.out (by simp))
          replace H17 := Lib.hid (hma.heap H17.out (by simp))
          replace H18 := Lib.hid (hma.heap H18.out (by simp))
          replace H3 := Lib.hid (hma.heap H3.out (by simp))
          have HC := Lib.hid (ownsRow_base hoc HM3.out.size)
          clear hoc hma hS3 HM3 HL3
          obtain ⟨Ac, cc, rfl, -⟩ := ownsRow_slice HC.out
          have f5 : v4.frozen? ⟨p5, 0, none⟩ = false := frozen_of_row _ _ _ _ _ H16.out
          have c5 : v4.cell? ⟨p5, 0, none⟩ = some (.int .u8 0) := by rw [cell_of_row _ _ _ _ _ _ H16.out]; rfl
          refine wpAnyH_ready (rs := [19]) (by kernel_rfl) (by simp) ?_
          refine AllReadyH.cons rfl (fun K2 hK => ?_) ?_
          · go_simp
            have hSa := setOther H16.out hS4 (by decide) (.int .u8 (kind : Int))
            refine hK.out _ _ hSa (fun hHeld => ?_)
            clear hK K2
            have HMa := Lib.hid (HM4.out.setCell (p := ⟨p5, 0, none⟩) (Or.inr L16.out) (.int .u8 (kind : Int)))
            replace HC := Lib.hid (ownsRow_set HC.out (a := ⟨p5, 0, none⟩) (ownsRow_not HC.out H16.out (by decide)) (.int .u8 (kind : Int)))
            replace H17 := Lib.hid (setOther H16.out H17.out (by decide) (.int .u8 (kind : Int)))
            replace H18 := Lib.hid (setOther H16.out H18.out (by decide) (.int .u8 (kind : Int)))
            replace H3 := Lib.hid (setOther H16.out H3.out (by decide) (.int .u8 (kind : Int)))
            replace H16 := Lib.hid (setSame H16.out (.int .u8 (kind : Int)))
            clear hS4 HM4 HL4 c5 f5
            generalize v4.setCell ⟨p5, 0, none⟩ (.int .u8 (kind : Int)) = va at *
            have f6 : va.frozen? ⟨p6, 0, none⟩ = false := frozen_of_row _ _ _ _ _ H17.out
            have c6 : va.cell? ⟨p6, 0, none⟩ = some (.int .i64 0) := by rw [cell_of_row _ _ _ _ _ _ H17.out]; rfl
            refine wpAnyH_ready (rs := [20]) (by kernel_rfl) (by simp) ?_
            refine AllReadyH.cons rfl (fun K2 hK => ?_) ?_
            · go_simp
              have hSb := setOther H17.out hSa (by decide) (.int .i64 (many : Int))
              refine hK.out _ _ hSb (fun hHeld => ?_)
              clear hK K2
              have HMb := Lib.hid (HMa.out.setCell (p := ⟨p6, 0, none⟩) (Or.inr L17.out) (.int .i64 (many : Int)))
              replace HC := Lib.hid (ownsRow_set HC.out (a := ⟨p6, 0, none⟩) (ownsRow_not HC.out H17.out (by decide)) (.int .i64 (many : Int)))
              replace H16 := Lib.hid (setOther H17.out H16.out (by decide) (.int .i64 (many : Int)))
              replace H18 := Lib.hid (setOther H17.out H18.out (by decide) (.int .i64 (many : Int)))
              replace H3 := Lib.hid (setOther H17.out H3.out (by decide) (.int .i64 (many : Int)))
              replace H17 := Lib.hid (setSame H17.out (.int .i64 (many : Int)))
              clear hSa HMa c6 f6
              generalize va.setCell ⟨p6, 0, none⟩ (.int .i64 (many : Int)) = vb at *
              have f7 : vb.frozen? ⟨p7, 0, none⟩ = false := frozen_of_row _ _ _ _ _ H18.out
              have c7 : vb.cell? ⟨p7, 0, none⟩ = some (.slice none 0 0) := by rw [cell_of_row _ _ _ _ _ _ H18.out]; rfl
              refine wpAnyH_ready (rs := [21]) (by kernel_rfl) (by simp) ?_
              refine AllReadyH.cons rfl (fun K2 hK => ?_) ?_
              · go_simp
                have hSc := setOther H18.out hSb (by decide) (.slice Ac uses.length cc)
                refine hK.out _ _ hSc (fun hHeld => ?_)
                clear hK K2
                have HMc := Lib.hid (HMb.out.setCell (p := ⟨p7, 0, none⟩) (Or.inr L18.out) (.slice Ac uses.length cc))
                replace HC := Lib.hid (ownsRow_set HC.out (a := ⟨p7, 0, none⟩) (ownsRow_not HC.out H18.out (by decide)) (.slice Ac uses.length cc))
                replace H16 := Lib.hid (setOther H18.out H16.out (by decide) (.slice Ac uses.length cc))
                replace H17 := Lib.hid (setOther H18.out H17.out (by decide) (.slice Ac uses.length cc))
                replace H3 := Lib.hid (setOther H18.out H3.out (by decide) (.slice Ac uses.length cc))
                replace H18 := Lib.hid (setSame H18.out (.slice Ac uses.length cc))
                clear hSb HMb c7 f7
                generalize vb.setCell ⟨p7, 0, none⟩ (.slice Ac uses.length cc) = vz at *
                refine wpAnyH_done (by kernel_rfl) ?_ _
                go_wp2_with fail
                go_ret
                exact ⟨p5, p7, w.heap.size, p6, _, rfl, L16.out, L18.out, Nat.le_refl _, L17.out, H16.out, H18.out, H3.out, H17.out, HC.out, HMc.out⟩
              exact AllReadyH.nil
            exact AllReadyH.nil
          exact AllReadyH.nil
        exact AllReadyH.nil
      exact AllReadyH.nil
    exact AllReadyH.nil
  refine AllReadyH.cons rfl (fun K2 hK => ?_) ?_
  · go_simp
    have hma := (Mods.refl [] v0).alloc (.cells #[.int .i64 0] 3)
    have hS1 := hma.heap hS0 (by simp)
    refine hK.out _ _ hS1 (fun hHeld => ?_)
    clear hK K2
    have HM1 := Lib.hid (HM0.out.trans hma (by simp))
    have HL1 := Lib.hid (ownsRow_mods HL0.out hma (by simp))
    replace H3 := Lib.hid (hma.heap H3.out (by simp))
    have H17 := Lib.hid (heap_alloc_new v0 (.cells #[.int .i64 0] 3))
    have L17 := Lib.hid HM0.out.size
    clear hma hS0 HM0 HL0
    generalize v0.alloc (.cells #[.int .i64 0] 3) = v1 at *
    generalize v0.heap.size = p6 at *
    refine wpAnyH_ready (rs := [15, 16, 18]) (by kernel_rfl) (by simp) ?_
    refine AllReadyH.cons rfl (fun K2 hK => ?_) ?_
    · go_simp
      refine (clone_uses (G := G) uses _ v1 HL1.out hu).mono ?_; rintro e v2 ⟨vc, rfl, hoc, hma⟩
      have hS2 := hma.heap hS1 (by simp)
      refine hK.out _ _ hS2 (fun hHeld => ?_)
      clear hK K2
      have HM2 := Lib.hid (HM1.out.trans hma (by simp))
      have HL2 := Lib.hid (ownsRow_mods HL1.out hma (by simp))
      replace H17 := Lib.hid (hma.heap H17.out (by simp))
      replace H3 := Lib.hid (hma.heap H3.out (by simp))
      have HC := Lib.hid (ownsRow_base hoc HM1.out.size)
      clear hoc hma hS1 HM1 HL1
      refine wpAnyH_ready (rs := [16, 18]) (by kernel_rfl) (by simp) ?_
      refine AllReadyH.cons rfl (fun K2 hK => ?_) ?_
      · go_simp
        have hma := (Mods.refl [] v2).alloc (.cells #[.int .u8 0] 36)
        have hS3 := hma.heap hS2 (by simp)
        refine hK.out _ _ hS3 (fun hHeld => ?_)
        clear hK K2
        have HM3 := Lib.hid (HM2.out.trans hma (by simp))
        have HL3 := Lib.hid (ownsRow_mods HL2.out hma (by simp))
        replace H17 := Lib.hid (hma.heap H17.out (by simp))
        replace H3 := Lib.hid (hma.heap H3.out (by simp))
        replace HC := Lib.hid (ownsRow_mods HC.out hma (by simp))
        have H16 := Lib.hid (heap_alloc_new v2 (.cells #[.int .u8 0] 36))
        have L16 := Lib.hid HM2.out.size
        clear hma hS2 HM2 HL2
        generalize v2.alloc (.cells #[.int .u8 0] 36) = v3 at *
        generalize v2.heap.size = p5 at *
        refine wpAnyH_ready (rs := [18]) (by kernel_rfl) (by simp) ?_
        refine AllReadyH.cons rfl (fun K2 hK => ?_) ?_
        · go_simp
          have hma := (Mods.refl [] v3).alloc (.cells #[.slice none 0 0] 112)
          have hS4 := hma.heap hS3 (by simp)
          refine hK.out _ _ hS4 (fun hHeld => ?_)
          clear hK K2
          have HM4 := Lib.hid (HM3.out.trans hma (by simp))
          have HL4 := Lib.hid (ownsRow_mods HL3.out hma (by simp))
          replace H16 := Lib.hid (hma.heap H16.out (by simp))
          replace H17 := Lib.hid (hma.heap H17.out (by simp))
          replace H3 := Lib.hid (hma.heap H3.out (by simp))
          replace HC := Lib.hid (ownsRow_mods HC.out hma (by simp))
          have H18 := Lib.hid (heap_alloc_new v3 (.cells #[.slice none 0 0] 112))
          have L18 := Lib.hid HM3.out.size
          clear hma hS3 HM3 HL3
          generalize v3.alloc (.cells #[.slice none 0 0] 112) = v4 at *
          generalize v3.heap.size = p7 at *
          obtain ⟨Ac, cc, rfl, -⟩ := ownsRow_slice HC.out
          have f5 : v4.frozen? ⟨p5, 0, none⟩ = false := frozen_of_row _ _ _ _ _ H16.out
          have c5 : v4.cell? ⟨p5, 0, none⟩ = some (.int .u8 0) := by rw [cell_of_row _ _ _ _ _ _ H16.out]; rfl
          refine wpAnyH_ready (rs := [19]) (by kernel_rfl) (by simp) ?_
          refine AllReadyH.cons rfl (fun K2 hK => ?_) ?_
          · go_simp
            have hSa := setOther H16.out hS4 (by decide) (.int .u8 (kind : Int))
            refine hK.out _ _ hSa (fun hHeld => ?_)
            clear hK K2
            have HMa := Lib.hid (HM4.out.setCell (p := ⟨p5, 0, none⟩) (Or.inr L16.out) (.int .u8 (kind : Int)))
            replace HC := Lib.hid (ownsRow_set HC.out (a := ⟨p5, 0, none⟩) (ownsRow_not HC.out H16.out (by decide)) (.int .u8 (kind : Int)))
            replace H17 := Lib.hid (setOther H16.out H17.out (by decide) (.int .u8 (kind : Int)))
            replace H18 := Lib.hid (setOther H16.out H18.out (by decide) (.int .u8 (kind : Int)))
            replace H3 := Lib.hid (setOther H16.out H3.out (by decide) (.int .u8 (kind : Int)))
            replace H16 := Lib.hid (setSame H16.out (.int .u8 (kind : Int)))
            clear hS4 HM4 HL4 c5 f5
            generalize v4.setCell ⟨p5, 0, none⟩ (.int .u8 (kind : Int)) = va at *
            have f6 : va.frozen? ⟨p6, 0, none⟩ = false := frozen_of_row _ _ _ _ _ H17.out
            have c6 : va.cell? ⟨p6, 0, none⟩ = some (.int .i64 0) := by rw [cell_of_row _ _ _ _ _ _ H17.out]; rfl
            refine wpAnyH_ready (rs := [20]) (by kernel_rfl) (by simp) ?_
            refine AllReadyH.cons rfl (fun K2 hK => ?_) ?_
            · go_simp
              have hSb := setOther H17.out hSa (by decide) (.int .i64 (many : Int))
              refine hK.out _ _ hSb (fun hHeld => ?_)
              clear hK K2
              have HMb := Lib.hid (HMa.out.setCell (p := ⟨p6, 0, none⟩) (Or.inr L17.out) (.int .i64 (many : Int)))
              replace HC := Lib.hid (ownsRow_set HC.out (a := ⟨p6, 0, none⟩) (ownsRow_not HC.out H17.out (by decide)) (.int .i64 (many : Int)))
              replace H16 := Lib.hid (setOther H17.out H16.out (by decide) (.int .i64 (many : Int)))
              replace H18 := Lib.hid (setOther H17.out H18.out (by decide) (.int .i64 (many : Int)))
              replace H3 := Lib.hid (setOther H17.out H3.out (by decide) (.int .i64 (many : Int)))
              replace H17 := Lib.hid (setSame H17.out (.int .i64 (many : Int)))
              clear hSa HMa c6 f6
              generalize va.setCell ⟨p6, 0, none⟩ (.int .i64 (many : Int)) = vb at *
              have f7 : vb.frozen? ⟨p7, 0, none⟩ = false := frozen_of_row _ _ _ _ _ H18.out
              have c7 : vb.cell? ⟨p7, 0, none⟩ = some (.slice none 0 0) := by rw [cell_of_row _ _ _ _ _ _ H18.out]; rfl
              refine wpAnyH_ready (rs := [21]) (by kernel_rfl) (by simp) ?_
              refine AllReadyH.cons rfl (fun K2 hK => ?_) ?_
              · go_simp
                have hSc := setOther H18.out hSb (by decide) (.slice Ac uses.length cc)
                refine hK.out _ _ hSc (fun hHeld => ?_)
                clear hK K2
                have HMc := Lib.hid (HMb.out.setCell (p := ⟨p7, 0, none⟩) (Or.inr L18.out) (.slice Ac uses.length cc))
                replace HC := Lib.hid (ownsRow_set HC.out (a := ⟨p7, 0, none⟩) (ownsRow_not HC.out H18.out (by decide)) (.slice Ac uses.length cc))
                replace H16 := Lib.hid (setOther H18.out H16.out (by decide) (.slice Ac uses.length cc))
                replace H17 := Lib.hid (setOther H18.out H17.out (by decide) (.slice Ac uses.length cc))
                replace H3 := Lib.hid (setOther H18.out H3.out (by decide) (.slice Ac uses.length cc))
                replace H18 := Lib.hid (setSame H18.out (.slice Ac uses.length cc))
                clear hSb HMb c7 f7
                generalize vb.setCell ⟨p7, 0, none⟩ (.slice Ac uses.length cc) = vz at *
                refine wpAnyH_done (by kernel_rfl) ?_ _
                go_wp2_with fail
                go_ret
                exact ⟨p5, p7, w.heap.size, p6, _, rfl, L16.out, L18.out, Nat.le_refl _, L17.out, H16.out, H18.out, H3.out, H17.out, HC.out, HMc.out⟩
              exact AllReadyH.nil
            exact AllReadyH.nil
          exact AllReadyH.nil
        exact AllReadyH.nil
      refine AllReadyH.cons rfl (fun K2 hK => ?_) ?_
      · go_simp
        have hma := (Mods.refl [] v2).alloc (.cells #[.slice none 0 0] 112)
        have hS3 := hma.heap hS2 (by simp)
        refine hK.out _ _ hS3 (fun hHeld => ?_)
        clear hK K2
        have HM3 := Lib.hid (HM2.out.trans hma (by simp))
        have HL3 := Lib.hid (ownsRow_mods HL2.out hma (by simp))
        replace H17 := Lib.hid (hma.heap H17.out (by simp))
        replace H3 := Lib.hid (hma.heap H3.out (by simp))
        replace HC := Lib.hid (ownsRow_mods HC.out hma (by simp))
        have H18 := Lib.hid (heap_alloc_new v2 (.cells #[.slice none 0 0] 112))
        have L18 := Lib.hid HM2.out.size
        clear hma hS2 HM2 HL2
        generalize v2.alloc (.cells #[.slice none 0 0] 112) = v3 at *
        generalize v2.heap.size = p7 at *
        refine wpAnyH_ready (rs := [16]) (by kernel_rfl) (by simp) ?_
        refine AllReadyH.cons rfl (fun K2 hK => ?_) ?_
        · go_simp
          have hma := (Mods.refl [] v3).alloc (.cells #[.int .u8 0] 36)
          have hS4 := hma.heap hS3 (by simp)
          refine hK.out _ _ hS4 (fun hHeld => ?_)
          clear hK K2
          have HM4 := Lib.hid (HM3.out.trans hma (by simp))
          have HL4 := Lib.hid (ownsRow_mods HL3.out hma (by simp))
          replace H17 := Lib.hid (hma.heap H17.out (by simp))
          replace H18 := Lib.hid (hma.heap H18.out (by simp))
          replace H3 := Lib.hid (hma.heap H3.out (by simp))
          replace HC := Lib.hid (ownsRow_mods HC.out hma (by simp))
          have H16 := Lib.hid (heap_alloc_new v3 (.cells #[.int .u8 0] 36))
          have L16 := Lib.hid HM3.out.size
          clear hma hS3 HM3 HL3
          generalize v3.alloc (.cells #[.int .u8 0] 36) = v4 at *
          generalize v3.heap.size = p5 at *
          obtain ⟨Ac, cc, rfl, -⟩ := ownsRow_slice HC.out
          have f5 : v4.frozen? ⟨p5, 0, none⟩ = false := frozen_of_row _ _ _ _ _ H16.out
          have c5 : v4.cell? ⟨p5, 0, none⟩ = some (.int .u8 0) := by rw [cell_of_row _ _ _ _ _ _ H16.out]; rfl
          refine wpAnyH_ready (rs := [19]) (by kernel_rfl) (by simp) ?_
          refine AllReadyH.cons rfl (fun K2 hK => ?_) ?_
          · go_simp
            have hSa := setOther H16.out hS4 (by decide) (.int .u8 (kind : Int))
            refine hK.out _ _ hSa (fun hHeld => ?_)
            clear hK K2
            have HMa := Lib.hid (HM4.out.setCell (p := ⟨p5, 0, none⟩) (Or.inr L16.out) (.int .u8 (kind : Int)))
            replace HC := Lib.hid (ownsRow_set HC.out (a := ⟨p5, 0, none⟩) (ownsRow_not HC.out H16.out (by decide)) (.int .u8 (kind : Int)))
            replace H17 := Lib.hid (setOther H16.out H17.out (by decide) (.int .u8 (kind : Int)))
            replace H18 := Lib.hid (setOther H16.out H18.out (by decide) (.int .u8 (kind : Int)))
            replace H3 := Lib.hid (setOther H16.out H3.out (by decide) (.int .u8 (kind : Int)))
            replace H16 := Lib.hid (setSame H16.out (.int .u8 (kind : Int)))
            clear hS4 HM4 HL4 c5 f5
            generalize v4.setCell ⟨p5, 0, none⟩ (.int .u8 (kind : Int)) = va at *
            have f6 : va.frozen? ⟨p6, 0, none⟩ = false := frozen_of_row _ _ _ _ _ H17.out
            have c6 : va.cell? ⟨p6, 0, none⟩ = some (.int .i64 0) := by rw [cell_of_row _ _ _ _ _ _ H17.out]; rfl
            refine wpAnyH_ready (rs := [20]) (by kernel_rfl) (by simp) ?_
            refine AllReadyH.cons rfl (fun K2 hK => ?_) ?_
            · go_simp
              have hSb := setOther H17.out hSa (by decide) (.int .i64 (many : Int))
              refine hK.out _ _ hSb (fun hHeld => ?_)
              clear hK K2
              have HMb := Lib.hid (HMa.out.setCell (p := ⟨p6, 0, none⟩) (Or.inr L17.out) (.int .i64 (many : Int)))
              replace HC := Lib.hid (ownsRow_set HC.out (a := ⟨p6, 0, none⟩) (ownsRow_not HC.out H17.out (by decide)) (.int .i64 (many : Int)))
              replace H16 := Lib.hid (setOther H17.out H16.out (by decide) (.int .i64 (many : Int)))
              replace H18 := Lib.hid (setOther H17.out H18.out (by decide) (.int .i64 (many : Int)))
              replace H3 := Lib.hid (setOther H17.out H3.out (by decide) (.int .i64 (many : Int)))
              replace H17 := Lib.hid (setSame H17.out (.int .i64 (many : Int)))
              clear hSa HMa c6 f6
              generalize va.setCell ⟨p6, 0, none⟩ (.int .i64 (many : Int)) = vb at *
              have f7 : vb.frozen? ⟨p7, 0, none⟩ = false := frozen_of_row _ _ _ _ _ H18.out
              have c7 : vb.cell? ⟨p7, 0, none⟩ = some (.slice none 0 0) := by rw [cell_of_row _ _ _ _ _ _ H18.out]; rfl
              refine wpAnyH_ready (rs := [21]) (by kernel_rfl) (by simp) ?_
              refine AllReadyH.cons rfl (fun K2 hK => ?_) ?_
              · go_simp
                have hSc := setOther H18.out hSb (by decide) (.slice Ac uses.length cc)
                refine hK.out _ _ hSc (fun hHeld => ?_)
                clear hK K2
                have HMc := Lib.hid (HMb.out.setCell (p := ⟨p7, 0, none⟩) (Or.inr L18.out) (.slice Ac uses.length cc))
                replace HC := Lib.hid (ownsRow_set HC.out (a := ⟨p7, 0, none⟩) (ownsRow_not HC.out H18.out (by decide)) (.slice Ac uses.length cc))
                replace H16 := Lib.hid (setOther H18.out H16.out (by decide) (.slice Ac uses.length cc))
                replace H17 := Lib.hid (setOther H18.out H17.out (by decide) (.slice Ac uses.length cc))
                replace H3 := Lib.hid (setOther H18.out H3.out (by decide) (.slice Ac uses.length cc))
                replace H18 := Lib.hid (setSame H18.out (.slice Ac uses.length cc))
                clear hSb HMb c7 f7
                generalize vb.setCell ⟨p7, 0, none⟩ (.slice Ac uses.length cc) = vz at *
                refine wpAnyH_done (by kernel_rfl) ?_ _
                go_wp2_with fail
                go_ret
                exact ⟨p5, p7, w.heap.size, p6, _, rfl, L16.out, L18.out, Nat.le_refl _, L17.out, H16.out, H18.out, H3.out, H17.out, HC.out, HMc.out⟩
              exact AllReadyH.nil
            exact AllReadyH.nil
          exact AllReadyH.nil
        exact AllReadyH.nil
      exact AllReadyH.nil
    refine AllReadyH.cons rfl (fun K2 hK => ?_) ?_
    · go_simp
      have hma := (Mods.refl [] v1).alloc (.cells #[.int .u8 0] 36)
      have hS2 := hma.heap hS1 (by simp)
      refine hK.out _ _ hS2 (fun hHeld => ?_)
      clear hK K2
      have HM2 := Lib.hid (HM1.out.trans hma (by simp))
      have HL2 := Lib.hid (ownsRow_mods HL1.out hma (by simp))
      replace H17 := Lib.hid (hma.heap H17.out (by simp))
      replace H3 := Lib.hid (hma.heap H3.out (by simp))
      have H16 := Lib.hid (heap_alloc_new v1 (.cells #[.int .u8 0] 36))
      have L16 := Lib.hid HM1.out.size
      clear hma hS1 HM1 HL1
      generalize v1.alloc (.cells #[.int .u8 0] 36) = v2 at *
      generalize v1.heap.size = p5 at *
      refine wpAnyH_ready (rs := [15, 18]) (by kernel_rfl) (by simp) ?_
      refine AllReadyH.cons rfl (fun K2 hK => ?_) ?_
      · go_simp
        refine (clone_uses (G := G) uses _ v2 HL2.out hu).mono ?_; rintro e v3 ⟨vc, rfl, hoc, hma⟩
        have hS3 := hma.heap hS2 (by simp)
        refine hK.out _ _ hS3 (fun hHeld => ?_)
        clear hK K2
        have HM3 := Lib.hid (HM2.out.trans hma (by simp))
        have HL3 := Lib.hid (ownsRow_mods HL2.out hma (by simp))
        replace H16 := Lib.hid (hma.heap H16.out (by simp))
        replace H17 := Lib.hid (hma.heap H17.out (by simp))
        replace H3 := Lib.hid (hma.heap H3.out (by simp))
        have HC := Lib.hid (ownsRow_base hoc HM2.out.size)
        clear hoc hma hS2 HM2 HL2
        refine wpAnyH_ready (rs := [18]) (by kernel_rfl) (by simp) ?_
        refine AllReadyH.cons rfl (fun K2 hK => ?_) ?_
        · go_simp
          have hma := (Mods.refl [] v3).alloc (.cells #[.slice none 0 0] 112)
          have hS4 := hma.heap hS3 (by simp)
          refine hK.out _ _ hS4 (fun hHeld => ?_)
          clear hK K2
          have HM4 := Lib.hid (HM3.out.trans hma (by simp))
          have HL4 := Lib.hid (ownsRow_mods HL3.out hma (by simp))
          replace H16 := Lib.hid (hma.heap H16.out (by simp))
          replace H17 := Lib.hid (hma.heap H17.out (by simp))
          replace H3 := Lib.hid (hma.heap H3.out (by simp))
          replace HC := Lib.hid (ownsRow_mods HC.out hma (by simp))
          have H18 := Lib.hid (heap_alloc_new v3 (.cells #[.slice none 0 0] 112))
          have L18 := Lib.hid HM3.out.size
          clear hma hS3 HM3 HL3
          generalize v3.alloc (.cells #[.slice none 0 0] 112) = v4 at *
          generalize v3.heap.size = p7 at *
          obtain ⟨Ac, cc, rfl, -⟩ := ownsRow_slice HC.out
          have f5 : v4.frozen? ⟨p5, 0, none⟩ = false := frozen_of_row _ _ _ _ _ H16.out
          have c5 : v4.cell? ⟨p5, 0, none⟩ = some (.int .u8 0) := by rw [cell_of_row _ _ _ _ _ _ H16.out]; rfl
          refine wpAnyH_ready (rs := [19]) (by kernel_rfl) (by simp) ?_
          refine AllReadyH.cons rfl (fun K2 hK => ?_) ?_
          · go_simp
            have hSa := setOther H16.out hS4 (by decide) (.int .u8 (kind : Int))
            refine hK.out _ _ hSa (fun hHeld => ?_)
            clear hK K2
            have HMa := Lib.hid (HM4.out.setCell (p := ⟨p5, 0, none⟩) (Or.inr L16.out) (.int .u8 (kind : Int)))
            replace HC := Lib.hid (ownsRow_set HC.out (a := ⟨p5, 0, none⟩) (ownsRow_not HC.out H16.out (by decide)) (.int .u8 (kind : Int)))
            replace H17 := Lib.hid (setOther H16.out H17.out (by decide) (.int .u8 (kind : Int)))
            replace H18 := Lib.hid (setOther H16.out H18.out (by decide) (.int .u8 (kind : Int)))
            replace H3 := Lib.hid (setOther H16.out H3.out (by decide) (.int .u8 (kind : Int)))
            replace H16 := Lib.hid (setSame H16.out (.int .u8 (kind : Int)))
            clear hS4 HM4 HL4 c5 f5
            generalize v4.setCell ⟨p5, 0, none⟩ (.int .u8 (kind : Int)) = va at *
            have f6 : va.frozen? ⟨p6, 0, none⟩ = false := frozen_of_row _ _ _ _ _ H17.out
            have c6 : va.cell? ⟨p6, 0, none⟩ = some (.int .i64 0) := by rw [cell_of_row _ _ _ _ _ _ H17.out]; rfl
            refine wpAnyH_ready (rs := [20]) (by kernel_rfl) (by simp) ?_
            refine AllReadyH.cons rfl (fun K2 hK => ?_) ?_
            · go_simp
              have hSb := setOther H17.out hSa (by decide) (.int .i64 (many : Int))
              refine hK.out _ _ hSb (fun hHeld => ?_)
              clear hK K2
              have HMb := Lib.hid (HMa.out.setCell (p := ⟨p6, 0, none⟩) (Or.inr L17.out) (.int .i64 (many : Int)))
              replace HC := Lib.hid (ownsRow_set HC.out (a := ⟨p6, 0, none⟩) (ownsRow_not HC.out H17.out (by decide)) (.int .i64 (many : Int)))
              replace H16 := Lib.hid (setOther H17.out H16.out (by decide) (.int .i64 (many : Int)))
              replace H18 := Lib.hid (setOther H17.out H18.out (by decide) (.int .i64 (many : Int)))
              replace H3 := Lib.hid (setOther H17.out H3.out (by decide) (.int .i64 (many : Int)))
              replace H17 := Lib.hid (setSame H17.out (.int .i64 (many : Int)))
              clear hSa HMa c6 f6
              generalize va.setCell ⟨p6, 0, none⟩ (.int .i64 (many : Int)) = vb at *
              have f7 : vb.frozen? ⟨p7, 0, none⟩ = false := frozen_of_row _ _ _ _ _ H18.out
              have c7 : vb.cell? ⟨p7, 0, none⟩ = some (.slice none 0 0) := by rw [cell_of_row _ _ _ _ _ _ H18.out]; rfl
              refine wpAnyH_ready (rs := [21]) (by kernel_rfl) (by simp) ?_
              refine AllReadyH.cons rfl (fun K2 hK => ?_) ?_
              · go_simp
                have hSc := setOther H18.out hSb (by decide) (.slice Ac uses.length cc)
                refine hK.out _ _ hSc (fun hHeld => ?_)
                clear hK K2
                have HMc := Lib.hid (HMb.out.setCell (p := ⟨p7, 0, none⟩) (Or.inr L18.out) (.slice Ac uses.length cc))
                replace HC := Lib.hid (ownsRow_set HC.out (a := ⟨p7, 0, none⟩) (ownsRow_not HC.out H18.out (by decide)) (.slice Ac uses.length cc))
                replace H16 := Lib.hid (setOther H18.out H16.out (by decide) (.slice Ac uses.length cc))
                replace H17 := Lib.hid (setOther H18.out H17.out (by decide) (.slice Ac uses.length cc))
                replace H3 := Lib.hid (setOther H18.out H3.out (by decide) (.slice Ac uses.length cc))
                replace H18 := Lib.hid (setSame H18.out (.slice Ac uses.length cc))
                clear hSb HMb c7 f7
                generalize vb.setCell ⟨p7, 0, none⟩ (.slice Ac uses.length cc) = vz at *
                refine wpAnyH_done (by kernel_rfl) ?_ _
                go_wp2_with fail
                go_ret
                exact ⟨p5, p7, w.heap.size, p6, _, rfl, L16.out, L18.out, Nat.le_refl _, L17.out, H16.out, H18.out, H3.out, H17.out, HC.out, HMc.out⟩
              exact AllReadyH.nil
            exact AllReadyH.nil
          exact AllReadyH.nil
        exact AllReadyH.nil
      refine AllReadyH.cons rfl (fun K2 hK => ?_) ?_
      · go_simp
        have hma := (Mods.refl [] v2).alloc (.cells #[.slice none 0 0] 112)
        have hS3 := hma.heap hS2 (by simp)
        refine hK.out _ _ hS3 (fun hHeld => ?_)
        clear hK K2
        have HM3 := Lib.hid (HM2.out.trans hma (by simp))
        have HL3 := Lib.hid (ownsRow_mods HL2.out hma (by simp))
        replace H16 := Lib.hid (hma.heap H16.out (by simp))
        replace H17 := Lib.hid (hma.heap H17.out (by simp))
        replace H3 := Lib.hid (hma.heap H3.out (by simp))
        have H18 := Lib.hid (heap_alloc_new v2 (.cells #[.slice none 0 0] 112))
        have L18 := Lib.hid HM2.out.size
        clear hma hS2 HM2 HL2
        generalize v2.alloc (.cells #[.slice none 0 0] 112) = v3 at *
        generalize v2.heap.size = p7 at *
        refine wpAnyH_ready (rs := [15]) (by kernel_rfl) (by simp) ?_
        refine AllReadyH.cons rfl (fun K2 hK => ?_) ?_
        · go_simp
          refine (clone_uses (G := G) uses _ v3 HL3.out hu).mono ?_; rintro e v4 ⟨vc, rfl, hoc, hma⟩
          have hS4 := hma.heap hS3 (by simp)
          refine hK.out _ _ hS4 (fun hHeld => ?_)
          clear hK K2
          have HM4 := Lib.hid (HM3.out.trans hma (by simp))
          have HL4 := Lib.hid (ownsRow_mods HL3.out hma (by simp))
          replace H16 := Lib.hid (hma.heap H16.out (by simp))
          replace H17 := Lib.hid (hma.heap H17.out (by simp))
          replace H18 := Lib.hid (hma.heap H18.out (by simp))
          replace H3 := Lib.hid (hma.heap H3.out (by simp))
          have HC := Lib.hid (ownsRow_base hoc HM3.out.size)
          clear hoc hma hS3 HM3 HL3
          obtain ⟨Ac, cc, rfl, -⟩ := ownsRow_slice HC.out
          have f5 : v4.frozen? ⟨p5, 0, none⟩ = false := frozen_of_row _ _ _ _ _ H16.out
          have c5 : v4.cell? ⟨p5, 0, none⟩ = some (.int .u8 0) := by rw [cell_of_row _ _ _ _ _ _ H16.out]; rfl
          refine wpAnyH_ready (rs := [19]) (by kernel_rfl) (by simp) ?_
          refine AllReadyH.cons rfl (fun K2 hK => ?_) ?_
          · go_simp
            have hSa := setOther H16.out hS4 (by decide) (.int .u8 (kind : Int))
            refine hK.out _ _ hSa (fun hHeld => ?_)
            clear hK K2
            have HMa := Lib.hid (HM4.out.setCell (p := ⟨p5, 0, none⟩) (Or.inr L16.out) (.int .u8 (kind : Int)))
            replace HC := Lib.hid (ownsRow_set HC.out (a := ⟨p5, 0, none⟩) (ownsRow_not HC.out H16.out (by decide)) (.int .u8 (kind : Int)))
            replace H17 := Lib.hid (setOther H16.out H17.out (by decide) (.int .u8 (kind : Int)))
            replace H18 := Lib.hid (setOther H16.out H18.out (by decide) (.int .u8 (kind : Int)))
            replace H3 := Lib.hid (setOther H16.out H3.out (by decide) (.int .u8 (kind : Int)))
            replace H16 := Lib.hid (setSame H16.out (.int .u8 (kind : Int)))
            clear hS4 HM4 HL4 c5 f5
            generalize v4.setCell ⟨p5, 0, none⟩ (.int .u8 (kind : Int)) = va at *
            have f6 : va.frozen? ⟨p6, 0, none⟩ = false := frozen_of_row _ _ _ _ _ H17.out
            have c6 : va.cell? ⟨p6, 0, none⟩ = some (.int .i64 0) := by rw [cell_of_row _ _ _ _ _ _ H17.out]; rfl
            refine wpAnyH_ready (rs := [20]) (by kernel_rfl) (by simp) ?_
            refine AllReadyH.cons rfl (fun K2 hK => ?_) ?_
            · go_simp
              have hSb := setOther H17.out hSa (by decide) (.int .i64 (many : Int))
              refine hK.out _ _ hSb (fun hHeld => ?_)
              clear hK K2
              have HMb := Lib.hid (HMa.out.setCell (p := ⟨p6, 0, none⟩) (Or.inr L17.out) (.int .i64 (many : Int)))
              replace HC := Lib.hid (ownsRow_set HC.out (a := ⟨p6, 0, none⟩) (ownsRow_not HC.out H17.out (by decide)) (.int .i64 (many : Int)))
              replace H16 := Lib.hid (setOther H17.out H16.out (by decide) (.int .i64 (many : Int)))
              replace H18 := Lib.hid (setOther H17.out H18.out (by decide) (.int .i64 (many : Int)))
              replace H3 := Lib.hid (setOther H17.out H3.out (by decide) (.int .i64 (many : Int)))
              replace H17 := Lib.hid (setSame H17.out (.int .i64 (many : Int)))
              clear hSa HMa c6 f6
              generalize va.setCell ⟨p6, 0, none⟩ (.int .i64 (many : Int)) = vb at *
              have f7 : vb.frozen? ⟨p7, 0, none⟩ = false := frozen_of_row _ _ _ _ _ H18.out
              have c7 : vb.cell? ⟨p7, 0, none⟩ = some (.slice none 0 0) := by rw [cell_of_row _ _ _ _ _ _ H18.out]; rfl
              refine wpAnyH_ready (rs := [21]) (by kernel_rfl) (by simp) ?_
              refine AllReadyH.cons rfl (fun K2 hK => ?_) ?_
              · go_simp
                have hSc := setOther H18.out hSb (by decide) (.slice Ac uses.length cc)
                refine hK.out _ _ hSc (fun hHeld => ?_)
                clear hK K2
                have HMc := Lib.hid (HMb.out.setCell (p := ⟨p7, 0, none⟩) (Or.inr L18.out) (.slice Ac uses.length cc))
                replace HC := Lib.hid (ownsRow_set HC.out (a := ⟨p7, 0, none⟩) (ownsRow_not HC.out H18.out (by decide)) (.slice Ac uses.length cc))
                replace H16 := Lib.hid (setOther H18.out H16.out (by decide) (.slice Ac uses.length cc))
                replace H17 := Lib.hid (setOther H18.out H17.out (by decide) (.slice Ac uses.length cc))
                replace H3 := Lib.hid (setOther H18.out H3.out (by decide) (.slice Ac uses.length cc))
                replace H18 := Lib.hid (setSame H18.out (.slice Ac uses.length cc))
                clear hSb HMb c7 f7
                generalize vb.setCell ⟨p7, 0, none⟩ (.slice Ac uses.length cc) = vz at *
                refine wpAnyH_done (by kernel_rfl) ?_ _
                go_wp2_with fail
                go_ret
                exact ⟨p5, p7, w.heap.size, p6, _, rfl, L16.out, L18.out, Nat.le_refl _, L17.out, H16.out, H18.out, H3.out, H17.out, HC.out, HMc.out⟩
              exact AllReadyH.nil
            exact AllReadyH.nil
          exact AllReadyH.nil
        exact AllReadyH.nil
      exact AllReadyH.nil
    refine AllReadyH.cons rfl (fun K2 hK => ?_) ?_
    · go_simp
      have hma := (Mods.refl [] v1).alloc (.cells #[.slice none 0 0] 112)
      have hS2 := hma.heap hS1 (by simp)
      refine hK.out _ _ hS2 (fun hHeld => ?_)
      clear hK K2
      have HM2 := Lib.hid (HM1.out.trans hma (by simp))
      have HL2 := Lib.hid (ownsRow_mods HL1.out hma (by simp))
      replace H17 := Lib.hid (hma.heap H17.out (by simp))
      replace H3 := Lib.hid (hma.heap H3.out (by simp))
      have H18 := Lib.hid (heap_alloc_new v1 (.cells #[.slice none 0 0] 112))
      have L18 := Lib.hid HM1.out.size
      clear hma hS1 HM1 HL1
      generalize v1.alloc (.cells #[.slice none 0 0] 112) = v2 at *
      generalize v1.heap.size = p7 at *
      refine wpAnyH_ready (rs := [15, 16]) (by kernel_rfl) (by simp) ?_
      refine AllReadyH.cons rfl (fun K2 hK => ?_) ?_
      · go_simp
        refine (clone_uses (G := G) uses _ v2 HL2.out hu).mono ?_; rintro e v3 ⟨vc, rfl, hoc, hma⟩
        have hS3 := hma.heap hS2 (by simp)
        refine hK.out _ _ hS3 (fun hHeld => ?_)
        clear hK K2
        have HM3 := Lib.hid (HM2.out.trans hma (by simp))
        have HL3 := Lib.hid (ownsRow_mods HL2.out hma (by simp))
        replace H17 := Lib.hid (hma.heap H17.out (by simp))
        replace H18 := Lib.hid (hma.heap H18.out (by simp))
        replace H3 := Lib.hid (hma.heap H3.out (by simp))
        have HC := Lib.hid (ownsRow_base hoc HM2.out.size)
        clear hoc hma hS2 HM2 HL2
        refine wpAnyH_ready (rs := [16]) (by kernel_rfl) (by simp) ?_
        refine AllReadyH.cons rfl (fun K2 hK => ?_) ?_
        · go_simp
          have hma := (Mods.refl [] v3).alloc (.cells #[.int .u8 0] 36)
          have hS4 := hma.heap hS3 (by simp)
          refine hK.out _ _ hS4 (fun hHeld => ?_)
          clear hK K2
          have HM4 := Lib.hid (HM3.out.trans hma (by simp))
          have HL4 := Lib.hid (ownsRow_mods HL3.out hma (by simp))
          replace H17 := Lib.hid (hma.heap H17.out (by simp))
          replace H18 := Lib.hid (hma.heap H18.out (by simp))
          replace H3 := Lib.hid (hma.heap H3.out (by simp))
          replace HC := Lib.hid (ownsRow_mods HC.out hma (by simp))
          have H16 := Lib.hid (heap_alloc_new v3 (.cells #[.int .u8 0] 36))
          have L16 := Lib.hid HM3.out.size
          clear hma hS3 HM3 HL3
          generalize v3.alloc (.cells #[.int .u8 0] 36) = v4 at *
          generalize v3.heap.size = p5 at *
          obtain ⟨Ac, cc, rfl, -⟩ := ownsRow_slice HC.out
          have f5 : v4.frozen? ⟨p5, 0, none⟩ = false := frozen_of_row _ _ _ _ _ H16.out
          have c5 : v4.cell? ⟨p5, 0, none⟩ = some (.int .u8 0) := by rw [cell_of_row _ _ _ _ _ _ H16.out]; rfl
          refine wpAnyH_ready (rs := [19]) (by kernel_rfl) (by simp) ?_
          refine AllReadyH.cons rfl (fun K2 hK => ?_) ?_
          · go_simp
            have hSa := setOther H16.out hS4 (by decide) (.int .u8 (kind : Int))
            refine hK.out _ _ hSa (fun hHeld => ?_)
            clear hK K2
            have HMa := Lib.hid (HM4.out.setCell (p := ⟨p5, 0, none⟩) (Or.inr L16.out) (.int .u8 (kind : Int)))
            replace HC := Lib.hid (ownsRow_set HC.out (a := ⟨p5, 0, none⟩) (ownsRow_not HC.out H16.out (by decide)) (.int .u8 (kind : Int)))
            replace H17 := Lib.hid (setOther H16.out H17.out (by decide) (.int .u8 (kind : Int)))
            replace H18 := Lib.hid (setOther H16.out H18.out (by decide) (.int .u8 (kind : Int)))
            replace H3 := Lib.hid (setOther H16.out H3.out (by decide) (.int .u8 (kind : Int)))
            replace H16 := Lib.hid (setSame H16.out (.int .u8 (kind : Int)))
            clear hS4 HM4 HL4 c5 f5
            generalize v4.setCell ⟨p5, 0, none⟩ (.int .u8 (kind : Int)) = va at *
            have f6 : va.frozen? ⟨p6, 0, none⟩ = false := frozen_of_row _ _ _ _ _ H17.out
            have c6 : va.cell? ⟨p6, 0, none⟩ = some (.int .i64 0) := by rw [cell_of_row _ _ _ _ _ _ H17.out]; rfl
            refine wpAnyH_ready (rs := [20]) (by kernel_rfl) (by simp) ?_
            refine AllReadyH.cons rfl (fun K2 hK => ?_) ?_
            · go_simp
              have hSb := setOther H17.out hSa (by decide) (.int .i64 (many : Int))
              refine hK.out _ _ hSb (fun hHeld => ?_)
              clear hK K2
              have HMb := Lib.hid (HMa.out.setCell (p := ⟨p6, 0, none⟩) (Or.inr L17.out) (.int .i64 (many : Int)))
              replace HC := Lib.hid (ownsRow_set HC.out (a := ⟨p6, 0, none⟩) (ownsRow_not HC.out H17.out (by decide)) (.int .i64 (many : Int)))
              replace H16 := Lib.hid (setOther H17.out H16.out (by decide) (.int .i64 (many : Int)))
              replace H18 := Lib.hid (setOther H17.out H18.out (by decide) (.int .i64 (many : Int)))
              replace H3 := Lib.hid (setOther H17.out H3.out (by decide) (.int .i64 (many : Int)))
              replace H17 := Lib.hid (setSame H17.out (.int .i64 (many : Int)))
              clear hSa HMa c6 f6
              generalize va.setCell ⟨p6, 0, none⟩ (.int .i64 (many : Int)) = vb at *
              have f7 : vb.frozen? ⟨p7, 0, none⟩ = false := frozen_of_row _ _ _ _ _ H18.out
              have c7 : vb.cell? ⟨p7, 0, none⟩ = some (.slice none 0 0) := by rw [cell_of_row _ _ _ _ _ _ H18.out]; rfl
              refine wpAnyH_ready (rs := [21]) (by kernel_rfl) (by simp) ?_
              refine AllReadyH.cons rfl (fun K2 hK => ?_) ?_
              · go_simp
                have hSc := setOther H18.out hSb (by decide) (.slice Ac uses.length cc)
                refine hK.out _ _ hSc (fun hHeld => ?_)
                clear hK K2
                have HMc := Lib.hid (HMb.out.setCell (p := ⟨p7, 0, none⟩) (Or.inr L18.out) (.slice Ac uses.length cc))
                replace HC := Lib.hid (ownsRow_set HC.out (a := ⟨p7, 0, none⟩) (ownsRow_not HC.out H18.out (by decide)) (.slice Ac uses.length cc))
                replace H16 := Lib.hid (setOther H18.out H16.out (by decide) (.slice Ac uses.length cc))
                replace H17 := Lib.hid (setOther H18.out H17.out (by decide) (.slice Ac uses.length cc))
                replace H3 := Lib.hid (setOther H18.out H3.out (by decide) (.slice Ac uses.length cc))
                replace H18 := Lib.hid (setSame H18.out (.slice Ac uses.length cc))
                clear hSb HMb c7 f7
                generalize vb.setCell ⟨p7, 0, none⟩ (.slice Ac uses.length cc) = vz at *
                refine wpAnyH_done (by kernel_rfl) ?_ _
                go_wp2_with fail
                go_ret
                exact ⟨p5, p7, w.heap.size, p6, _, rfl, L16.out, L18.out, Nat.le_refl _, L17.out, H16.out, H18.out, H3.out, H17.out, HC.out, HMc.out⟩
              exact AllReadyH.nil
            exact AllReadyH.nil
          exact AllReadyH.nil
        exact AllReadyH.nil
      refine AllReadyH.cons rfl (fun K2 hK => ?_) ?_
      · go_simp
        have hma := (Mods.refl [] v2).alloc (.cells #[.int .u8 0] 36)
        have hS3 := hma.heap hS2 (by simp)
        refine hK.out _ _ hS3 (fun hHeld => ?_)
        clear hK K2
        have HM3 := Lib.hid (HM2.out.trans hma (by simp))
        have HL3 := Lib.hid (ownsRow_mods HL2.out hma (by simp))
        replace H17 := Lib.hid (hma.heap H17.out (by simp))
        replace H18 := Lib.hid (hma.heap H18.out (by simp))
        replace H3 := Lib.hid (hma.heap H3.out (by simp))
        have H16 := Lib.hid (heap_alloc_new v2 (.cells #[.int .u8 0] 36))
        have L16 := Lib.hid HM2.out.size
        clear hma hS2 HM2 HL2
        generalize v2.alloc (.cells #[.int .u8 0] 36) = v3 at *
        generalize v2.heap.size = p5 at *
        refine wpAnyH_ready (rs := [15]) (by kernel_rfl) (by simp) ?_
        refine AllReadyH.cons rfl (fun K2 hK => ?_) ?_
        · go_simp
          refine (clone_uses (G := G) uses _ v3 HL3.out hu).mono ?_; rintro e v4 ⟨vc, rfl, hoc, hma⟩
          have hS4 := hma.heap hS3 (by simp)
          refine hK.out _ _ hS4 (fun hHeld => ?_)
          clear hK K2
          have HM4 := Lib.hid (HM3.out.trans hma (by simp))
          have HL4 := Lib.hid (ownsRow_mods HL3.out hma (by simp))
          replace H16 := Lib.hid (hma.heap H16.out (by simp))
          replace H17 := Lib.hid (hma.heap H17.out (by simp))
          replace H18 := Lib.hid (hma.heap H18.out (by simp))
          replace H3 := Lib.hid (hma.heap H3.out (by simp))
          have HC := Lib.hid (ownsRow_base hoc HM3.out.size)
          clear hoc hma hS3 HM3 HL3
          obtain ⟨Ac, cc, rfl, -⟩ := ownsRow_slice HC.out
          have f5 : v4.frozen? ⟨p5, 0, none⟩ = false := frozen_of_row _ _ _ _ _ H16.out
          have c5 : v4.cell? ⟨p5, 0, none⟩ = some (.int .u8 0) := by rw [cell_of_row _ _ _ _ _ _ H16.out]; rfl
          refine wpAnyH_ready (rs := [19]) (by kernel_rfl) (by simp) ?_
          refine AllReadyH.cons rfl (fun K2 hK => ?_) ?_
          · go_simp
            have hSa := setOther H16.out hS4 (by decide) (.int .u8 (kind : Int))
            refine hK.out _ _ hSa (fun hHeld => ?_)
            clear hK K2
            have HMa := Lib.hid (HM4.out.setCell (p := ⟨p5, 0, none⟩) (Or.inr L16.out) (.int .u8 (kind : Int)))
            replace HC := Lib.hid (ownsRow_set HC.out (a := ⟨p5, 0, none⟩) (ownsRow_not HC.out H16.out (by decide)) (.int .u8 (kind : Int)))
            replace H17 := Lib.hid (setOther H16.out H17.out (by decide) (.int .u8 (kind : Int)))
            replace H18 := Lib.hid (setOther H16.out H18.out (by decide) (.int .u8 (kind : Int)))
            replace H3 := Lib.hid (setOther H16.out H3.out (by decide) (.int .u8 (kind : Int)))
            replace H16 := Lib.hid (setSame H16.out (.int .u8 (kind : Int)))
            clear hS4 HM4 HL4 c5 f5
            generalize v4.setCell ⟨p5, 0, none⟩ (.int .u8 (kind : Int)) = va at *
            have f6 : va.frozen? ⟨p6, 0, none⟩ = false := frozen_of_row _ _ _ _ _ H17.out
            have c6 : va.cell? ⟨p6, 0, none⟩ = some (.int .i64 0) := by rw [cell_of_row _ _ _ _ _ _ H17.out]; rfl
            refine wpAnyH_ready (rs := [20]) (by kernel_rfl) (by simp) ?_
            refine AllReadyH.cons rfl (fun K2 hK => ?_) ?_
            · go_simp
              have hSb := setOther H17.out hSa (by decide) (.int .i64 (many : Int))
              refine hK.out _ _ hSb (fun hHeld => ?_)
              clear hK K2
              have HMb := Lib.hid (HMa.out.setCell (p := ⟨p6, 0, none⟩) (Or.inr L17.out) (.int .i64 (many : Int)))
              replace HC := Lib.hid (ownsRow_set HC.out (a := ⟨p6, 0, none⟩) (ownsRow_not HC.out H17.out (by decide)) (.int .i64 (many : Int)))
              replace H16 := Lib.hid (setOther H17.out H16.out (by decide) (.int .i64 (many : Int)))
              replace H18 := Lib.hid (setOther H17.out H18.out (by decide) (.int .i64 (many : Int)))
              replace H3 := Lib.hid (setOther H17.out H3.out (by decide) (.int .i64 (many : Int)))
              replace H17 := Lib.hid (setSame H17.out (.int .i64 (many : Int)))
              clear hSa HMa c6 f6
              generalize va.setCell ⟨p6, 0, none⟩ (.int .i64 (many : Int)) = vb at *
              have f7 : vb.frozen? ⟨p7, 0, none⟩ = false := frozen_of_row _ _ _ _ _ H18.out
              have c7 : vb.cell? ⟨p7, 0, none⟩ = some (.slice none 0 0) := by rw [cell_of_row _ _ _ _ _ _ H18.out]; rfl
              refine wpAnyH_ready (rs := [21]) (by kernel_rfl) (by simp) ?_
              refine AllReadyH.cons rfl (fun K2 hK => ?_) ?_
              · go_simp
                have hSc := setOther H18.out hSb (by decide) (.slice Ac uses.length cc)
                refine hK.out _ _ hSc (fun hHeld => ?_)
                clear hK K2
                have HMc := Lib.hid (HMb.out.setCell (p := ⟨p7, 0, none⟩) (Or.inr L18.out) (.slice Ac uses.length cc))
                replace HC := Lib.hid (ownsRow_set HC.out (a := ⟨p7, 0, none⟩) (ownsRow_not HC.out H18.out (by decide)) (.slice Ac uses.length cc))
                replace H16 := Lib.hid (setOther H18.out H16.out (by decide) (.slice Ac uses.length cc))
                replace H17 := Lib.hid (setOther H18.out H17.out (by decide) (.slice Ac uses.length cc))
                replace H3 := Lib.hid (setOther H18.out H3.out (by decide) (.slice Ac uses.length cc))
                replace H18 := Lib.hid (setSame H18.out (.slice Ac uses.length cc))
                clear hSb HMb c7 f7
                generalize vb.setCell ⟨p7, 0, none⟩ (.slice Ac uses.length cc) = vz at *
                refine wpAnyH_done (by kernel_rfl) ?_ _
                go_wp2_with fail
                go_ret
                exact ⟨p5, p7, w.heap.size, p6, _, rfl, L16.out, L18.out, Nat.le_refl _, L17.out, H16.out, H18.out, H3.out, H17.out, HC.out, HMc.out⟩
              exact AllReadyH.nil
            exact AllReadyH.nil
          exact AllReadyH.nil
        exact AllReadyH.nil
      exact AllReadyH.nil
    exact AllReadyH.nil
  refine AllReadyH.cons rfl (fun K2 hK => ?_) ?_
  · go_simp
    have hma := (Mods.refl [] v0).alloc (.cells #[.slice none 0 0] 112)
    have hS1 := hma.heap hS0 (by simp)
    refine hK.out _ _ hS1 (fun hHeld => ?_)
    clear hK K2
    have HM1 := Lib.hid (HM0.out.trans hma (by simp))
    have HL1 := Lib.hid (ownsRow_mods HL0.out hma (by simp))
    replace H3 := Lib.hid (hma.heap H3.out (by simp))
    have H18 := Lib.hid (heap_alloc_new v0 (.cells #[.slice none 0 0] 112))
    have L18 := Lib.hid HM0.out.size
    clear hma hS0 HM0 HL0
    generalize v0.alloc (.cells #[.slice none 0 0] 112) = v1 at *
    generalize v0.heap.size = p7 at *
    refine wpAnyH_ready (rs := [15, 16, 17]) (by kernel_rfl) (by simp) ?_
    refine AllReadyH.cons rfl (fun K2 hK => ?_) ?_
    · go_simp
      refine (clone_uses (G := G) uses _ v1 HL1.out hu).mono ?_; rintro e v2 ⟨vc, rfl, hoc, hma⟩
      have hS2 := hma.heap hS1 (by simp)
      refine hK.out _ _ hS2 (fun hHeld => ?_)
      clear hK K2
      have HM2 := Lib.hid (HM1.out.trans hma (by simp))
      have HL2 := Lib.hid (ownsRow_mods HL1.out hma (by simp))
      replace H18 := Lib.hid (hma.heap H18.out (by simp))
      replace H3 := Lib.hid (hma.heap H3.out (by simp))
      have HC := Lib.hid (ownsRow_base hoc HM1.out.size)
      clear hoc hma hS1 HM1 HL1
      refine wpAnyH_ready (rs := [16, 17]) (by kernel_rfl) (by simp) ?_
      refine AllReadyH.cons rfl (fun K2 hK => ?_) ?_
      · go_simp
        have hma := (Mods.refl [] v2).alloc (.cells #[.int .u8 0] 36)
        have hS3 := hma.heap hS2 (by simp)
        refine hK.out _ _ hS3 (fun hHeld => ?_)
        clear hK K2
        have HM3 := Lib.hid (HM2.out.trans hma (by simp))
        have HL3 := Lib.hid (ownsRow_mods HL2.out hma (by simp))
        replace H18 := Lib.hid (hma.heap H18.out (by simp))
        replace H3 := Lib.hid (hma.heap H3.out (by simp))
        replace HC := Lib.hid (ownsRow_mods HC.out hma (by simp))
        have H16 := Lib.hid (heap_alloc_new v2 (.cells #[.int .u8 0] 36))
        have L16 := Lib.hid HM2.out.size
        clear hma hS2 HM2 HL2
        generalize v2.alloc (.cells #[.int .u8 0] 36) = v3 at *
        generalize v2.heap.size = p5 at *
        refine wpAnyH_ready (rs := [17]) (by kernel_rfl) (by simp) ?_
        refine AllReadyH.cons rfl (fun K2 hK => ?_) ?_
        · go_simp
          have hma := (Mods.refl [] v3).alloc (.cells #[.int .i64 0] 3)
          have hS4 := hma.heap hS3 (by simp)
          refine hK.out _ _ hS4 (fun hHeld => ?_)
          clear hK K2
          have HM4 := Lib.hid (HM3.out.trans hma (by simp))
          have HL4 := Lib.hid (ownsRow_mods HL3.out hma (by simp))
          replace H16 := Lib.hid (hma.heap H16.out (by simp))
          replace H18 := Lib.hid (hma.heap H18.out (by simp))
          replace H3 := Lib.hid (hma.heap H3.out (by simp))
          replace HC := Lib.hid (ownsRow_mods HC.out hma (by simp))
          have H17 := Lib.hid (heap_alloc_new v3 (.cells #[.int .i64 0] 3))
          have L17 := Lib.hid HM3.out.size
          clear hma hS3 HM3 HL3
          generalize v3.alloc (.cells #[.int .i64 0] 3) = v4 at *
          generalize v3.heap.size = p6 at *
          obtain ⟨Ac, cc, rfl, -⟩ := ownsRow_slice HC.out
          have f5 : v4.frozen? ⟨p5, 0, none⟩ = false := frozen_of_row _ _ _ _ _ H16.out
          have c5 : v4.cell? ⟨p5, 0, none⟩ = some (.int .u8 0) := by rw [cell_of_row _ _ _ _ _ _ H16.out]; rfl
          refine wpAnyH_ready (rs := [19]) (by kernel_rfl) (by simp) ?_
          refine AllReadyH.cons rfl (fun K2 hK => ?_) ?_
          · go_simp
            have hSa := setOther H16.out hS4 (by decide) (.int .u8 (kind : Int))
            refine hK.out _ _ hSa (fun hHeld => ?_)
            clear hK K2
            have HMa := Lib.hid (HM4.out.setCell (p := ⟨p5, 0, none⟩) (Or.inr L16.out) (.int .u8 (kind : Int)))
            replace HC := Lib.hid (ownsRow_set HC.out (a := ⟨p5, 0, none⟩) (ownsRow_not HC.out H16.out (by decide)) (.int .u8 (kind : Int)))
            replace H17 := Lib.hid (setOther H16.out H17.out (by decide) (.int .u8 (kind : Int)))
            replace H18 := Lib.hid (setOther H16.out H18.out (by decide) (.int .u8 (kind : Int)))
            replace H3 := Lib.hid (setOther H16.out H3.out (by decide) (.int .u8 (kind : Int)))
            replace H16 := Lib.hid (setSame H16.out (.int .u8 (kind : Int)))
            clear hS4 HM4 HL4 c5 f5
            generalize v4.setCell ⟨p5, 0, none⟩ (.int .u8 (kind : Int)) = va at *
            have f6 : va.frozen? ⟨p6, 0, none⟩ = false := frozen_of_row _ _ _ _ _ H17.out
            have c6 : va.cell? ⟨p6, 0, none⟩ = some (.int .i64 0) := by rw [cell_of_row _ _ _ _ _ _ H17.out]; rfl
            refine wpAnyH_ready (rs := [20]) (by kernel_rfl) (by simp) ?_
            refine AllReadyH.cons rfl (fun K2 hK => ?_) ?_
            · go_simp
              have hSb := setOther H17.out hSa (by decide) (.int .i64 (many : Int))
              refine hK.out _ _ hSb (fun hHeld => ?_)
              clear hK K2
              have HMb := Lib.hid (HMa.out.setCell (p := ⟨p6, 0, none⟩) (Or.inr L17.out) (.int .i64 (many : Int)))
              replace HC := Lib.hid (ownsRow_set HC.out (a := ⟨p6, 0, none⟩) (ownsRow_not HC.out H17.out (by decide)) (.int .i64 (many : Int)))
              replace H16 := Lib.hid (setOther H17.out H16.out (by decide) (.int .i64 (many : Int)))
              replace H18 := Lib.hid (setOther H17.out H18.out (by decide) (.int .i64 (many : Int)))
              replace H3 := Lib.hid (setOther H17.out H3.out (by decide) (.int .i64 (many : Int)))
              replace H17 := Lib.hid (setSame H17.out (.int .i64 (many : Int)))
              clear hSa HMa c6 f6
              generalize va.setCell ⟨p6, 0, none⟩ (.int .i64 (many : Int)) = vb at *
              have f7 : vb.frozen? ⟨p7, 0, none⟩ = false := frozen_of_row _ _ _ _ _ H18.out
              have c7 : vb.cell? ⟨p7, 0, none⟩ = some (.slice none 0 0) := by rw [cell_of_row _ _ _ _ _ _ H18.out]; rfl
              refine wpAnyH_ready (rs := [21]) (by kernel_rfl) (by simp) ?_
              refine AllReadyH.cons rfl (fun K2 hK => ?_) ?_
              · go_simp
                have hSc := setOther H18.out hSb (by decide) (.slice Ac uses.length cc)
                refine hK.out _ _ hSc (fun hHeld => ?_)
                clear hK K2
                have HMc := Lib.hid (HMb.out.setCell (p := ⟨p7, 0, none⟩) (Or.inr L18.out) (.slice Ac uses.length cc))
                replace HC := Lib.hid (ownsRow_set HC.out (a := ⟨p7, 0, none⟩) (ownsRow_not HC.out H18.out (by decide)) (.slice Ac uses.length cc))
                replace H16 := Lib.hid (setOther H18.out H16.out (by decide) (.slice Ac uses.length cc))
                replace H17 := Lib.hid (setOther H18.out H17.out (by decide) (.slice Ac uses.length cc))
                replace H3 := Lib.hid (setOther H18.out H3.out (by decide) (.slice Ac uses.length cc))
                replace H18 := Lib.hid (setSame H18.out (.slice Ac uses.length cc))
                clear hSb HMb c7 f7
                generalize vb.setCell ⟨p7, 0, none⟩ (.slice Ac uses.length cc) = vz at *
                refine wpAnyH_done (by kernel_rfl) ?_ _
                go_wp2_with fail
                go_ret
                exact ⟨p5, p7, w.heap.size, p6, _, rfl, L16.out, L18.out, Nat.le_refl _, L17.out, H16.out, H18.out, H3.out, H17.out, HC.out, HMc.out⟩
              exact AllReadyH.nil
            exact AllReadyH.nil
          exact AllReadyH.nil
        exact AllReadyH.nil
      refine AllReadyH.cons rfl (fun K2 hK => ?_) ?_
      · go_simp
        have hma := (Mods.refl [] v2).alloc (.cells #[.int .i64 0] 3)
        have hS3 := hma.heap hS2 (by simp)
        refine hK.out _ _ hS3 (fun hHeld => ?_)
        clear hK K2
        have HM3 := Lib.hid (HM2.out.trans hma (by simp))
        have HL3 := Lib.hid (ownsRow_mods HL2.out hma (by simp))
        replace H18 := Lib.hid (hma.heap H18.out (by simp))
        replace H3 := Lib.hid (hma.heap H3.out (by simp))
        replace HC := Lib.hid (ownsRow_mods HC.out hma (by simp))
        have H17 := Lib.hid (heap_alloc_new v2 (.cells #[.int .i64 0] 3))
        have L17 := Lib.hid HM2.out.size
        clear hma hS2 HM2 HL2
        generalize v2.alloc (.cells #[.int .i64 0] 3) = v3 at *
        generalize v2.heap.size = p6 at *
        refine wpAnyH_ready (rs := [16]) (by kernel_rfl) (by simp) ?_
        refine AllReadyH.cons rfl (fun K2 hK => ?_) ?_
        · go_simp
          have hma := (Mods.refl [] v3).alloc (.cells #[.int .u8 0] 36)
          have hS4 := hma.heap hS3 (by simp)
          refine hK.out _ _ hS4 (fun hHeld => ?_)
          clear hK K2
          have HM4 := Lib.hid (HM3.out.trans hma (by simp))
          have HL4 := Lib.hid (ownsRow_mods HL3.out hma (by simp))
          replace H17 := Lib.hid (hma.heap H17.out (by simp))
          replace H18 := Lib.hid (hma.heap H18.out (by simp))
          replace H3 := Lib.hid (hma.heap H3.out (by simp))
          replace HC := Lib.hid (ownsRow_mods HC.out hma (by simp))
          have H16 := Lib.hid (heap_alloc_new v3 (.cells #[.int .u8 0] 36))
          have L16 := Lib.hid HM3.out.size
          clear hma hS3 HM3 HL3
          generalize v3.alloc (.cells #[.int .u8 0] 36) = v4 at *
          generalize v3.heap.size = p5 at *
          obtain ⟨Ac, cc, rfl, -⟩ := ownsRow_slice HC.out
          have f5 : v4.frozen? ⟨p5, 0, none⟩ = false := frozen_of_row _ _ _ _ _ H16.out
          have c5 : v4.cell? ⟨p5, 0, none⟩ = some (.int .u8 0) := by rw [cell_of_row _ _ _ _ _ _ H16.out]; rfl
          refine wpAnyH_ready (rs := [19]) (by kernel_rfl) (by simp) ?_
          refine AllReadyH.cons rfl (fun K2 hK => ?_) ?_
          · go_simp
            have hSa := setOther H16.out hS4 (by decide) (.int .u8 (kind : Int))
            refine hK.out _ _ hSa (fun hHeld => ?_)
            clear hK K2
            have HMa := Lib.hid (HM4.out.setCell (p := ⟨p5, 0, none⟩) (Or.inr L16.out) (.int .u8 (kind : Int)))
            replace HC := Lib.hid (ownsRow_set HC.out (a := ⟨p5, 0, none⟩) (ownsRow_not HC.out H16.out (by decide)) (.int .u8 (kind : Int)))
            replace H17 := Lib.hid (setOther H16.out H17.out (by decide) (.int .u8 (kind : Int)))
            replace H18 := Lib.hid (setOther H16.out H18.out (by decide) (.int .u8 (kind : Int)))
            replace H3 := Lib.hid (setOther H16.out H3.out (by decide) (.int .u8 (kind : Int)))
            replace H16 := Lib.hid (setSame H16.out (.int .u8 (kind : Int)))
            clear hS4 HM4 HL4 c5 f5
            generalize v4.setCell ⟨p5, 0, none⟩ (.int .u8 (kind : Int)) = va at *
            have f6 : va.frozen? ⟨p6, 0, none⟩ = false := frozen_of_row _ _ _ _ _ H17.out
            have c6 : va.cell? ⟨p6, 0, none⟩ = some (.int .i64 0) := by rw [cell_of_row _ _ _ _ _ _ H17.out]; rfl
            refine wpAnyH_ready (rs := [20]) (by kernel_rfl) (by simp) ?_
            refine AllReadyH.cons rfl (fun K2 hK => ?_) ?_
            · go_simp
              have hSb := setOther H17.out hSa (by decide) (.int .i64 (many : Int))
              refine hK.out _ _ hSb (fun hHeld => ?_)
              clear hK K2
              have HMb := Lib.hid (HMa.out.setCell (p := ⟨p6, 0, none⟩) (Or.inr L17.out) (.int .i64 (many : Int)))
              replace HC := Lib.hid (ownsRow_set HC.out (a := ⟨p6, 0, none⟩) (ownsRow_not HC.out H17.out (by decide)) (.int .i64 (many : Int)))
              replace H16 := Lib.hid (setOther H17.out H16.out (by decide) (.int .i64 (many : Int)))
              replace H18 := Lib.hid (setOther H17.out H18.out (by decide) (.int .i64 (many : Int)))
              replace H3 := Lib.hid (setOther H17.out H3.out (by decide) (.int .i64 (many : Int)))
              replace H17 := Lib.hid (setSame H17.out (.int .i64 (many : Int)))
              clear hSa HMa c6 f6
              generalize va.setCell ⟨p6, 0, none⟩ (.int .i64 (many : Int)) = vb at *
              have f7 : vb.frozen? ⟨p7, 0, none⟩ = false := frozen_of_row _ _ _ _ _ H18.out
              have c7 : vb.cell? ⟨p7, 0, none⟩ = some (.slice none 0 0) := by rw [cell_of_row _ _ _ _ _ _ H18.out]; rfl
              refine wpAnyH_ready (rs := [21]) (by kernel_rfl) (by simp) ?_
              refine AllReadyH.cons rfl (fun K2 hK => ?_) ?_
              · go_simp
                have hSc := setOther H18.out hSb (by decide) (.slice Ac uses.length cc)
                refine hK.out _ _ hSc (fun hHeld => ?_)
                clear hK K2
                have HMc := Lib.hid (HMb.out.setCell (p := ⟨p7, 0, none⟩) (Or.inr L18.out) (.slice Ac uses.length cc))
                replace HC := Lib.hid (ownsRow_set HC.out (a := ⟨p7, 0, none⟩) (ownsRow_not HC.out H18.out (by decide)) (.slice Ac uses.length cc))
                replace H16 := Lib.hid (setOther H18.out H16.out (by decide) (.slice Ac uses.length cc))
                replace H17 := Lib.hid (setOther H18.out H17.out (by decide) (.slice Ac uses.length cc))
                replace H3 := Lib.hid (setOther H18.out H3.out (by decide) (.slice Ac uses.length cc))
                replace H18 := Lib.hid (setSame H18.out (.slice Ac uses.length cc))
                clear hSb HMb c7 f7
                generalize vb.setCell ⟨p7, 0, none⟩ (.slice Ac uses.length cc) = vz at *
                refine wpAnyH_done (by kernel_rfl) ?_ _
                go_wp2_with fail
                go_ret
                exact ⟨p5, p7, w.heap.size, p6, _, rfl, L16.out, L18.out, Nat.le_refl _, L17.out, H16.out, H18.out, H3.out, H17.out, HC.out, HMc.out⟩
              exact AllReadyH.nil
            exact AllReadyH.nil
          exact AllReadyH.nil
        exact AllReadyH.nil
      exact AllReadyH.nil
    refine AllReadyH.cons rfl (fun K2 hK => ?_) ?_
    · go_simp
      have hma := (Mods.refl [] v1).alloc (.cells #[.int .u8 0] 36)
      have hS2 := hma.heap hS1 (by simp)
      refine hK.out _ _ hS2 (fun hHeld => ?_)
      clear hK K2
      have HM2 := Lib.hid (HM1.out.trans hma (by simp))
      have HL2 := Lib.hid (ownsRow_mods HL1.out hma (by simp))
      replace H18 := Lib.hid (hma.heap H18.out (by simp))
      replace H3 := Lib.hid (hma.heap H3.out (by simp))
      have H16 := Lib.hid (heap_alloc_new v1 (.cells #[.int .u8 0] 36))
      have L16 := Lib.hid HM1.out.size
      clear hma hS1 HM1 HL1
      generalize v1.alloc (.cells #[.int .u8 0] 36) = v2 at *
      generalize v1.heap.size = p5 at *
      refine wpAnyH_ready (rs := [15, 17]) (by kernel_rfl) (by simp) ?_
      refine AllReadyH.cons rfl (fun K2 hK => ?_) ?_
      · go_simp
        refine (clone_uses (G := G) uses _ v2 HL2.out hu).mono ?_; rintro e v3 ⟨vc, rfl, hoc, hma⟩
        have hS3 := hma.heap hS2 (by simp)
        refine hK.out _ _ hS3 (fun hHeld => ?_)
        clear hK K2
        have HM3 := Lib.hid (HM2.out.trans hma (by simp))
        have HL3 := Lib.hid (ownsRow_mods HL2.out hma (by simp))
        replace H16 := Lib.hid (hma.heap H16.out (by simp))
        replace H18 := Lib.hid (hma.heap H18.out (by simp))
        replace H3 := Lib.hid (hma.heap H3.out (by simp))
        have HC := Lib.hid (ownsRow_base hoc HM2.out.size)
        clear hoc hma hS2 HM2 HL2
        refine wpAnyH_ready (rs := [17]) (by kernel_rfl) (by simp) ?_
        refine AllReadyH.cons rfl (fun K2 hK => ?_) ?_
        · go_simp
          have hma := (Mods.refl [] v3).alloc (.cells #[.int .i64 0] 3)
          have hS4 := hma.heap hS3 (by simp)
          refine hK.out _ _ hS4 (fun hHeld => ?_)
          clear hK K2
          have HM4 := Lib.hid (HM3.out.trans hma (by simp))
          have HL4 := Lib.hid (ownsRow_mods HL3.out hma (by simp))
          replace H16 := Lib.hid (hma.heap H16.out (by simp))
          replace H18 := Lib.hid (hma.heap H18.out (by simp))
          replace H3 := Lib.hid (hma.heap H3.out (by simp))
          replace HC := Lib.hid (ownsRow_mods HC.out hma (by simp))
          have H17 := Lib.hid (heap_alloc_new v3 (.cells #[.int .i64 0] 3))
          have L17 := Lib.hid HM3.out.size
          clear hma hS3 HM3 HL3
          generalize v3.alloc (.cells #[.int .i64 0] 3) = v4 at *
          generalize v3.heap.size = p6 at *
          obtain ⟨Ac, cc, rfl, -⟩ := ownsRow_slice HC.out
          have f5 : v4.frozen? ⟨p5, 0, none⟩ = false := frozen_of_row _ _ _ _ _ H16.out
          have c5 : v4.cell? ⟨p5, 0, none⟩ = some (.int .u8 0) := by rw [cell_of_row _ _ _ _ _ _ H16.out]; rfl
          refine wpAnyH_ready (rs := [19]) (by kernel_rfl) (by simp) ?_
          refine AllReadyH.cons rfl (fun K2 hK => ?_) ?_
          · go_simp
            have hSa := setOther H16.out hS4 (by decide) (.int .u8 (kind : Int))
            refine hK.out _ _ hSa (fun hHeld => ?_)
            clear hK K2
            have HMa := Lib.hid (HM4.out.setCell (p := ⟨p5, 0, none⟩) (Or.inr L16.out) (.int .u8 (kind : Int)))
            replace HC := Lib.hid (ownsRow_set HC.out (a := ⟨p5, 0, none⟩) (ownsRow_not HC.out H16.out (by decide)) (.int .u8 (kind : Int)))
            replace H17 := Lib.hid (setOther H16.out H17.out (by decide) (.int .u8 (kind : Int)))
            replace H18 := Lib.hid (setOther H16.out H18.out (by decide) (.int .u8 (kind : Int)))
            replace H3 := Lib.hid (setOther H16.out H3.out (by decide) (.int .u8 (kind : Int)))
            replace H16 := Lib.hid (setSame H16.out (.int .u8 (kind : Int)))
            clear hS4 HM4 HL4 c5 f5
            generalize v4.setCell ⟨p5, 0, none⟩ (.int .u8 (kind : Int)) = va at *
            have f6 : va.frozen? ⟨p6, 0, none⟩ = false := frozen_of_row _ _ _ _ _ H17.out
            have c6 : va.cell? ⟨p6, 0, none⟩ = some (.int .i64 0) := by rw [cell_of_row _ _ _ _ _ _ H17.out]; rfl
            refine wpAnyH_ready (rs := [20]) (by kernel_rfl) (by simp) ?_
            refine AllReadyH.cons rfl (fun K2 hK => ?_) ?_
            · go_simp
              have hSb := setOther H17.out hSa (by decide) (.int .i64 (many : Int))
              refine hK.out _ _ hSb (fun hHeld => ?_)
              clear hK K2
              have HMb := Lib.hid (HMa.out.setCell (p := ⟨p6, 0, none⟩) (Or.inr L17.out) (.int .i64 (many : Int)))
              replace HC := Lib.hid (ownsRow_set HC.out (a := ⟨p6, 0, none⟩) (ownsRow_not HC.out H17.out (by decide)) (.int .i64 (many : Int)))
              replace H16 := Lib.hid (setOther H17.out H16.out (by decide) (.int .i64 (many : Int)))
              replace H18 := Lib.hid (setOther H17.out H18.out (by decide) (.int .i64 (many : Int)))
              replace H3 := Lib.hid (setOther H17.out H3.out (by decide) (.int .i64 (many : Int)))
              replace H17 := Lib.hid (setSame H17.out (.int .i64 (many : Int)))
              clear hSa HMa c6 f6
              generalize va.setCell ⟨p6, 0, none⟩ (.int .i64 (many : Int)) = vb at *
              have f7 : vb.frozen? ⟨p7, 0, none⟩ = false := frozen_of_row _ _ _ _ _ H18.out
              have c7 : vb.cell? ⟨p7, 0, none⟩ = some (.slice none 0 0) := by rw [cell_of_row _ _ _ _ _ _ H18.out]; rfl
              refine wpAnyH_ready (rs := [21]) (by kernel_rfl) (by simp) ?_
              refine AllReadyH.cons rfl (fun K2 hK => ?_) ?_
              · go_simp
                have hSc := setOther H18.out hSb (by decide) (.slice Ac uses.length cc)
                refine hK.out _ _ hSc (fun hHeld => ?_)
                clear hK K2
                have HMc := Lib.hid (HMb.out.setCell (p := ⟨p7, 0, none⟩) (Or.inr L18.out) (.slice Ac uses.length cc))
                replace HC := Lib.hid (ownsRow_set HC.out (a := ⟨p7, 0, none⟩) (ownsRow_not HC.out H18.out (by decide)) (.slice Ac uses.length cc))
                replace H16 := Lib.hid (setOther H18.out H16.out (by decide) (.slice Ac uses.length cc))
                replace H17 := Lib.hid (setOther H18.out H17.out (by decide) (.slice Ac uses.length cc))
                replace H3 := Lib.hid (setOther H18.out H3.out (by decide) (.slice Ac uses.length cc))
                replace H18 := Lib.hid (setSame H18.out (.slice Ac uses.length cc))
                clear hSb HMb c7 f7
                generalize vb.setCell ⟨p7, 0, none⟩ (.slice Ac uses.length cc) = vz at *
                refine wpAnyH_done (by kernel_rfl) ?_ _
                go_wp2_with fail
                go_ret
                exact ⟨p5, p7, w.heap.size, p6, _, rfl, L16.out, L18.out, Nat.le_refl _, L17.out, H16.out, H18.out, H3.out, H17.out, HC.out, HMc.out⟩
              exact AllReadyH.nil
            exact AllReadyH.nil
          exact AllReadyH.nil
        exact AllReadyH.nil
      refine AllReadyH.cons rfl (fun K2 hK => ?_) ?_
      · go_simp
        have hma := (Mods.refl [] v2).alloc (.cells #[.int .i64 0] 3)
        have hS3 := hma.heap hS2 (by simp)
        refine hK.out _ _ hS3 (fun hHeld => ?_)
        clear hK K2
        have HM3 := Lib.hid (HM2.out.trans hma (by simp))
        have HL3 := Lib.hid (ownsRow_mods HL2.out hma (by simp))
        replace H16 := Lib.hid (hma.heap H16.out (by simp))
        replace H18 := Lib.hid (hma.heap H18.out (by simp))
        replace H3 := Lib.hid (hma.heap H3.out (by simp))
        have H17 := Lib.hid (heap_alloc_new v2 (.cells #[.int .i64 0] 3))
        have L17 := Lib.hid HM2.out.size
        clear hma hS2 HM2 HL2
        generalize v2.alloc (.cells #[.int .i64 0] 3) = v3 at *
        generalize v2.heap.size = p6 at *
        refine wpAnyH_ready (rs := [15]) (by kernel_rfl) (by simp) ?_
        refine AllReadyH.cons rfl (fun K2 hK => ?_) ?_
        · go_simp
          refine (clone_uses (G := G) uses _ v3 HL3.out hu).mono ?_; rintro e v4 ⟨vc, rfl, hoc, hma⟩
          have hS4 := hma.heap hS3 (by simp)
          refine hK.out _ _ hS4 (fun hHeld => ?_)
          clear hK K2
          have HM4 := Lib.hid (HM3.out.trans hma (by simp))
          have HL4 := Lib.hid (ownsRow_mods HL3.out hma (by simp))
          replace H16 := Lib.hid (hma.heap H16.out (by simp))
          replace H17 := Lib.hid (hma.heap H17.out (by simp))
          replace H18 := Lib.hid (hma.heap H18.out (by simp))
          replace H3 := Lib.hid (hma.heap H3.out (by simp))
          have HC := Lib.hid (ownsRow_base hoc HM3.out.size)
          clear hoc hma hS3 HM3 HL3
          obtain ⟨Ac, cc, rfl, -⟩ := ownsRow_slice HC.out
          have f5 : v4.frozen? ⟨p5, 0, none⟩ = false := frozen_of_row _ _ _ _ _ H16.out
          have c5 : v4.cell? ⟨p5, 0, none⟩ = some (.int .u8 0) := by rw [cell_of_row _ _ _ _ _ _ H16.out]; rfl
          refine wpAnyH_ready (rs := [19]) (by kernel_rfl) (by simp) ?_
          refine AllReadyH.cons rfl (fun K2 hK => ?_) ?_
          · go_simp
            have hSa := setOther H16.out hS4 (by decide) (.int .u8 (kind : Int))
            refine hK.out _ _ hSa (fun hHeld => ?_)
            clear hK K2
            have HMa := Lib.hid (HM4.out.setCell (p := ⟨p5, 0, none⟩) (Or.inr L16.out) (.int .u8 (kind : Int)))
            replace HC := Lib.hid (ownsRow_set HC.out (a := ⟨p5, 0, none⟩) (ownsRow_not HC.out H16.out (by decide)) (.int .u8 (kind : Int)))
            replace H17 := Lib.hid (setOther H16.out H17.out (by decide) (.int .u8 (kind : Int)))
            replace H18 := Lib.hid (setOther H16.out H18.out (by decide) (.int .u8 (kind : Int)))
            replace H3 := Lib.hid (setOther H16.out H3.out (by decide) (.int .u8 (kind : Int)))
            replace H16 := Lib.hid (setSame H16.out (.int .u8 (kind : Int)))
            clear hS4 HM4 HL4 c5 f5
            generalize v4.setCell ⟨p5, 0, none⟩ (.int .u8 (kind : Int)) = va at *
            have f6 : va.frozen? ⟨p6, 0, none⟩ = false := frozen_of_row _ _ _ _ _ H17.out
            have c6 : va.cell? ⟨p6, 0, none⟩ = some (.int .i64 0) := by rw [cell_of_row _ _ _ _ _ _ H17.out]; rfl
            refine wpAnyH_ready (rs := [20]) (by kernel_rfl) (by simp) ?_
            refine AllReadyH.cons rfl (fun K2 hK => ?_) ?_
            · go_simp
              have hSb := setOther H17.out hSa (by decide) (.int .i64 (many : Int))
              refine hK.out _ _ hSb (fun hHeld => ?_)
              clear hK K2
              have HMb := Lib.hid (HMa.out.setCell (p := ⟨p6, 0, none⟩) (Or.inr L17.out) (.int .i64 (many : Int)))
              replace HC := Lib.hid (ownsRow_set HC.out (a := ⟨p6, 0, none⟩) (ownsRow_not HC.out H17.out (by decide)) (.int .i64 (many : Int)))
              replace H16 := Lib.hid (setOther H17.out H16.out (by decide) (.int .i64 (many : Int)))
              replace H18 := Lib.hid (setOther H17.out H18.out (by decide) (.int .i64 (many : Int)))
              replace H3 := Lib.hid (setOther H17.out H3.out (by decide) (.int .i64 (many : Int)))
              replace H17 := Lib.hid (setSame H17.out (.int .i64 (many : Int)))
              clear hSa HMa c6 f6
              generalize va.setCell ⟨p6, 0, none⟩ (.int .i64 (many : Int)) = vb at *
              have f7 : vb.frozen? ⟨p7, 0, none⟩ = false := frozen_of_row _ _ _ _ _ H18.out
              have c7 : vb.cell? ⟨p7, 0, none⟩ = some (.slice none 0 0) := by rw [cell_of_row _ _ _ _ _ _ H18.out]; rfl
              refine wpAnyH_ready (rs := [21]) (by kernel_rfl) (by simp) ?_
              refine AllReadyH.cons rfl (fun K2 hK => ?_) ?_
              · go_simp
                have hSc := setOther H18.out hSb (by decide) (.slice Ac uses.length cc)
                refine hK.out _ _ hSc (fun hHeld => ?_)
                clear hK K2
                have HMc := Lib.hid (HMb.out.setCell (p := ⟨p7, 0, none⟩) (Or.inr L18.out) (.slice Ac uses.length cc))
                replace HC := Lib.hid (ownsRow_set HC.out (a := ⟨p7, 0, none⟩) (ownsRow_not HC.out H18.out (by decide)) (.slice Ac uses.length cc))
                replace H16 := Lib.hid (setOther H18.out H16.out (by decide) (.slice Ac uses.length cc))
                replace H17 := Lib.hid (setOther H18.out H17.out (by decide) (.slice Ac uses.length cc))
                replace H3 := Lib.hid (setOther H18.out H3.out (by decide) (.slice Ac uses.length cc))
                replace H18 := Lib.hid (setSame H18.out (.slice Ac uses.length cc))
                clear hSb HMb c7 f7
                generalize vb.setCell ⟨p7, 0, none⟩ (.slice Ac uses.length cc) = vz at *
                refine wpAnyH_done (by kernel_rfl) ?_ _
                go_wp2_with fail
                go_ret
                exact ⟨p5, p7, w.heap.size, p6, _, rfl, L16.out, L18.out, Nat.le_refl _, L17.out, H16.out, H18.out, H3.out, H17.out, HC.out, HMc.out⟩
              exact AllReadyH.nil
            exact AllReadyH.nil
          exact AllReadyH.nil
        exact AllReadyH.nil
      exact AllReadyH.nil
    refine AllReadyH.cons rfl (fun K2 hK => ?_) ?_
    · go_simp
      have hma := (Mods.refl [] v1).alloc (.cells #[.int .i64 0] 3)
      have hS2 := hma.heap hS1 (by simp)
      refine hK.out _ _ hS2 (fun hHeld => ?_)
      clear hK K2
      have HM2 := Lib.hid (HM1.out.trans hma (by simp))
      have HL2 := Lib.hid (ownsRow_mods HL1.out hma (by simp))
      replace H18 := Lib.hid (hma.heap H18.out (by simp))
      replace H3 := Lib.hid (hma.heap H3.out (by simp))
      have H17 := Lib.hid (heap_alloc_new v1 (.cells #[.int .i64 0] 3))
      have L17 := Lib.hid HM1.out.size
      clear hma hS1 HM1 HL1
      generalize v1.alloc (.cells #[.int .i64 0] 3) = v2 at *
      generalize v1.heap.size = p6 at *
      refine wpAnyH_ready (rs := [15, 16]) (by kernel_rfl) (by simp) ?_
      refine AllReadyH.cons rfl (fun K2 hK => ?_) ?_
      · go_simp
        refine (clone_uses (G := G) uses _ v2 HL2.out hu).mono ?_; rintro e v3 ⟨vc, rfl, hoc, hma⟩
        have hS3 := hma.heap hS2 (by simp)
        refine hK.out _ _ hS3 (fun hHeld => ?_)
        clear hK K2
        have HM3 := Lib.hid (HM2.out.trans hma (by simp))
        have HL3 := Lib.hid (ownsRow_mods HL2.out hma (by simp))
        replace H17 := Lib.hid (hma.heap H17.out (by simp))
        replace H18 := Lib.hid (hma.heap H18.out (by simp))
        replace H3 := Lib.hid (hma.heap H3.out (by simp))
        have HC := Lib.hid (ownsRow_base hoc HM2.out.size)
        clear hoc hma hS2 HM2 HL2
        refine wpAnyH_ready (rs := [16]) (by kernel_rfl) (by simp) ?_
        refine AllReadyH.cons rfl (fun K2 hK => ?_) ?_
        · go_simp
          have hma := (Mods.refl [] v3).alloc (.cells #[.int .u8 0] 36)
          have hS4 := hma.heap hS3 (by simp)
          refine hK.out _ _ hS4 (fun hHeld => ?_)
          clear hK K2
          have HM4 := Lib.hid (HM3.out.trans hma (by simp))
          have HL4 := Lib.hid (ownsRow_mods HL3.out hma (by simp))
          replace H17 := Lib.hid (hma.heap H17.out (by simp))
          replace H18 := Lib.hid (hma.heap H18.out (by simp))
          replace H3 := Lib.hid (hma.heap H3.out (by simp))
          replace HC := Lib.hid (ownsRow_mods HC.out hma (by simp))
          have H16 := Lib.hid (heap_alloc_new v3 (.cells #[.int .u8 0] 36))
          have L16 := Lib.hid HM3.out.size
          clear hma hS3 HM3 HL3
          generalize v3.alloc (.cells #[.int .u8 0] 36) = v4 at *
          generalize v3.heap.size = p5 at *
          obtain ⟨Ac, cc, rfl, -⟩ := ownsRow_slice HC.out
          have f5 : v4.frozen? ⟨p5, 0, none⟩ = false := frozen_of_row _ _ _ _ _ H16.out
          have c5 : v4.cell? ⟨p5, 0, none⟩ = some (.int .u8 0) := by rw [cell_of_row _ _ _ _ _ _ H16.out]; rfl
          refine wpAnyH_ready (rs := [19]) (by kernel_rfl) (by simp) ?_
          refine AllReadyH.cons rfl (fun K2 hK => ?_) ?_
          · go_simp
            have hSa := setOther H16.out hS4 (by decide) (.int .u8 (kind : Int))
            refine hK.out _ _ hSa (fun hHeld => ?_)
            clear hK K2
            have HMa := Lib.hid (HM4.out.setCell (p := ⟨p5, 0, none⟩) (Or.inr L16.out) (.int .u8 (kind : Int)))
            replace HC := Lib.hid (ownsRow_set HC.out (a := ⟨p5, 0, none⟩) (ownsRow_not HC.out H16.out (by decide)) (.int .u8 (kind : Int)))
            replace H17 := Lib.hid (setOther H16.out H17.out (by decide) (.int .u8 (kind : Int)))
            replace H18 := Lib.hid (setOther H16.out H18.out (by decide) (.int .u8 (kind : Int)))
            replace H3 := Lib.hid (setOther H16.out H3.out (by decide) (.int .u8 (kind : Int)))
            replace H16 := Lib.hid (setSame H16.out (.int .u8 (kind : Int)))
            clear hS4 HM4 HL4 c5 f5
            generalize v4.setCell ⟨p5, 0, none⟩ (.int .u8 (kind : Int)) = va at *
            have f6 : va.frozen? ⟨p6, 0, none⟩ = false := frozen_of_row _ _ _ _ _ H17.out
            have c6 : va.cell? ⟨p6, 0, none⟩ = some (.int .i64 0) := by rw [cell_of_row _ _ _ _ _ _ H17.out]; rfl
            refine wpAnyH_ready (rs := [20]) (by kernel_rfl) (by simp) ?_
            refine AllReadyH.cons rfl (fun K2 hK => ?_) ?_
            · go_simp
              have hSb := setOther H17.out hSa (by decide) (.int .i64 (many : Int))
              refine hK.out _ _ hSb (fun hHeld => ?_)
              clear hK K2
              have HMb := Lib.hid (HMa.out.setCell (p := ⟨p6, 0, none⟩) (Or.inr L17.out) (.int .i64 (many : Int)))
              replace HC := Lib.hid (ownsRow_set HC.out (a := ⟨p6, 0, none⟩) (ownsRow_not HC.out H17.out (by decide)) (.int .i64 (many : Int)))
              replace H16 := Lib.hid (setOther H17.out H16.out (by decide) (.int .i64 (many : Int)))
              replace H18 := Lib.hid (setOther H17.out H18.out (by decide) (.int .i64 (many : Int)))
              replace H3 := Lib.hid (setOther H17.out H3.out (by decide) (.int .i64 (many : Int)))
              replace H17 := Lib.hid (setSame H17.out (.int .i64 (many : Int)))
              clear hSa HMa c6 f6
              generalize va.setCell ⟨p6, 0, none⟩ (.int .i64 (many : Int)) = vb at *
              have f7 : vb.frozen? ⟨p7, 0, none⟩ = false := frozen_of_row _ _ _ _ _ H18.out
              have c7 : vb.cell? ⟨p7, 0, none⟩ = some (.slice none 0 0) := by rw [cell_of_row _ _ _ _ _ _ H18.out]; rfl
              refine wpAnyH_ready (rs := [21]) (by kernel_rfl) (by simp) ?_
              refine AllReadyH.cons rfl (fun K2 hK => ?_) ?_
              · go_simp
                have hSc := setOther H18.out hSb (by decide) (.slice Ac uses.length cc)
                refine hK.out _ _ hSc (fun hHeld => ?_)
                clear hK K2
                have HMc := Lib.hid (HMb.out.setCell (p := ⟨p7, 0, none⟩) (Or.inr L18.out) (.slice Ac uses.length cc))
                replace HC := Lib.hid (ownsRow_set HC.out (a := ⟨p7, 0, none⟩) (ownsRow_not HC.out H18.out (by decide)) (.slice Ac uses.length cc))
                replace H16 := Lib.hid (setOther H18.out H16.out (by decide) (.slice Ac uses.length cc))
                replace H17 := Lib.hid (setOther H18.out H17.out (by decide) (.slice Ac uses.length cc))
                replace H3 := Lib.hid (setOther H18.out H3.out (by decide) (.slice Ac uses.length cc))
                replace H18 := Lib.hid (setSame H18.out (.slice Ac uses.length cc))
                clear hSb HMb c7 f7
                generalize vb.setCell ⟨p7, 0, none⟩ (.slice Ac uses.length cc) = vz at *
                refine wpAnyH_done (by kernel_rfl) ?_ _
                go_wp2_with fail
                go_ret
                exact ⟨p5, p7, w.heap.size, p6, _, rfl, L16.out, L18.out, Nat.le_refl _, L17.out, H16.out, H18.out, H3.out, H17.out, HC.out, HMc.out⟩
              exact AllReadyH.nil
            exact AllReadyH.nil
          exact AllReadyH.nil
        exact AllReadyH.nil
      refine AllReadyH.cons rfl (fun K2 hK => ?_) ?_
      · go_simp
        have hma := (Mods.refl [] v2).alloc (.cells #[.int .u8 0] 36)
        have hS3 := hma.heap hS2 (by simp)
        refine hK.out _ _ hS3 (fun hHeld => ?_)
        clear hK K2
        have HM3 := Lib.hid (HM2.out.trans hma (by simp))
        have HL3 := Lib.hid (ownsRow_mods HL2.out hma (by simp))
        replace H17 := Lib.hid (hma.heap H17.out (by simp))
        replace H18 := Lib.hid (hma.heap H18.out (by simp))
        replace H3 := Lib.hid (hma.heap H3.out (by simp))
        have H16 := Lib.hid (heap_alloc_new v2 (.cells #[.int .u8 0] 36))
        have L16 := Lib.hid HM2.out.size
        clear hma hS2 HM2 HL2
        generalize v2.alloc (.cells #[.int .u8 0] 36) = v3 at *
        generalize v2.heap.size = p5 at *
        refine wpAnyH_ready (rs := [15]) (by kernel_rfl) (by simp) ?_
        refine AllReadyH.cons rfl (fun K2 hK => ?_) ?_
        · go_simp
          refine (clone_uses (G := G) uses _ v3 HL3.out hu).mono ?_; rintro e v4 ⟨vc, rfl, hoc, hma⟩
          have hS4 := hma.heap hS3 (by simp)
          refine hK.out _ _ hS4 (fun hHeld => ?_)
          clear hK K2
          have HM4 := Lib.hid (HM3.out.trans hma (by simp))
          have HL4 := Lib.hid (ownsRow_mods HL3.out hma (by simp))
          replace H16 := Lib.hid (hma.heap H16.out (by simp))
          replace H17 := Lib.hid (hma.heap H17.out (by simp))
          replace H18 := Lib.hid (hma.heap H18.out (by simp))
          replace H3 := Lib.hid (hma.heap H3.out (by simp))
          have HC := Lib.hid (ownsRow_base hoc HM3.out.size)
          clear hoc hma hS3 HM3 HL3
          obtain ⟨Ac, cc, rfl, -⟩ := ownsRow_slice HC.out
          have f5 : v4.frozen? ⟨p5, 0, none⟩ = false := frozen_of_row _ _ _ _ _ H16.out
          have c5 : v4.cell? ⟨p5, 0, none⟩ = some (.int .u8 0) := by rw [cell_of_row _ _ _ _ _ _ H16.out]; rfl
          refine wpAnyH_ready (rs := [19]) (by kernel_rfl) (by simp) ?_
          refine AllReadyH.cons rfl (fun K2 hK => ?_) ?_
          · go_simp
            have hSa := setOther H16.out hS4 (by decide) (.int .u8 (kind : Int))
            refine hK.out _ _ hSa (fun hHeld => ?_)
            clear hK K2
            have HMa := Lib.hid (HM4.out.setCell (p := ⟨p5, 0, none⟩) (Or.inr L16.out) (.int .u8 (kind : Int)))
            replace HC := Lib.hid (ownsRow_set HC.out (a := ⟨p5, 0, none⟩) (ownsRow_not HC.out H16.out (by decide)) (.int .u8 (kind : Int)))
            replace H17 := Lib.hid (setOther H16.out H17.out (by decide) (.int .u8 (kind : Int)))
            replace H18 := Lib.hid (setOther H16.out H18.out (by decide) (.int .u8 (kind : Int)))
            replace H3 := Lib.hid (setOther H16.out H3.out (by decide) (.int .u8 (kind : Int)))
            replace H16 := Lib.hid (setSame H16.out (.int .u8 (kind : Int)))
            clear hS4 HM4 HL4 c5 f5
            generalize v4.setCell ⟨p5, 0, none⟩ (.int .u8 (kind : Int)) = va at *
            have f6 : va.frozen? ⟨p6, 0, none⟩ = false := frozen_of_row _ _ _ _ _ H17.out
            have c6 : va.cell? ⟨p6, 0, none⟩ = some (.int .i64 0) := by rw [cell_of_row _ _ _ _ _ _ H17.out]; rfl
            refine wpAnyH_ready (rs := [20]) (by kernel_rfl) (by simp) ?_
            refine AllReadyH.cons rfl (fun K2 hK => ?_) ?_
            · go_simp
              have hSb := setOther H17.out hSa (by decide) (.int .i64 (many : Int))
              refine hK.out _ _ hSb (fun hHeld => ?_)
              clear hK K2
              have HMb := Lib.hid (HMa.out.setCell (p := ⟨p6, 0, none⟩) (Or.inr L17.out) (.int .i64 (many : Int)))
              replace HC := Lib.hid (ownsRow_set HC.out (a := ⟨p6, 0, none⟩) (ownsRow_not HC.out H17.out (by decide)) (.int .i64 (many : Int)))
              replace H16 := Lib.hid (setOther H17.out H16.out (by decide) (.int .i64 (many : Int)))
              replace H18 := Lib.hid (setOther H17.out H18.out (by decide) (.int .i64 (many : Int)))
              replace H3 := Lib.hid (setOther H17.out H3.out (by decide) (.int .i64 (many : Int)))
              replace H17 := Lib.hid (setSame H17.out (.int .i64 (many : Int)))
              clear hSa HMa c6 f6
              generalize va.setCell ⟨p6, 0, none⟩ (.int .i64 (many : Int)) = vb at *
              have f7 : vb.frozen? ⟨p7, 0, none⟩ = false := frozen_of_row _ _ _ _ _ H18.out
              have c7 : vb.cell? ⟨p7, 0, none⟩ = some (.slice none 0 0) := by rw [cell_of_row _ _ _ _ _ _ H18.out]; rfl
              refine wpAnyH_ready (rs := [21]) (by kernel_rfl) (by simp) ?_
              refine AllReadyH.cons rfl (fun K2 hK => ?_) ?_
              · go_simp
                have hSc := setOther H18.out hSb (by decide) (.slice Ac uses.length cc)
                refine hK.out _ _ hSc (fun hHeld => ?_)
                clear hK K2
                have HMc := Lib.hid (HMb.out.setCell (p := ⟨p7, 0, none⟩) (Or.inr L18.out) (.slice Ac uses.length cc))
                replace HC := Lib.hid (ownsRow_set HC.out (a := ⟨p7, 0, none⟩) (ownsRow_not HC.out H18.out (by decide)) (.slice Ac uses.length cc))
                replace H16 := Lib.hid (setOther H18.out H16.out (by decide) (.slice Ac uses.length cc))
                replace H17 := Lib.hid (setOther H18.out H17.out (by decide) (.slice Ac uses.length cc))
                replace H3 := Lib.hid (setOther H18.out H3.out (by decide) (.slice Ac uses.length cc))
                replace H18 := Lib.hid (setSame H18.out (.slice Ac uses.length cc))
                clear hSb HMb c7 f7
                generalize vb.setCell ⟨p7, 0, none⟩ (.slice Ac uses.length cc) = vz at *
                refine wpAnyH_done (by kernel_rfl) ?_ _
                go_wp2_with fail
                go_ret
                exact ⟨p5, p7, w.heap.size, p6, _, rfl, L16.out, L18.out, Nat.le_refl _, L17.out, H16.out, H18.out, H3.out, H17.out, HC.out, HMc.out⟩
              exact AllReadyH.nil
            exact AllReadyH.nil
          exact AllReadyH.nil
        exact AllReadyH.nil
      exact AllReadyH.nil
    exact AllReadyH.nil
  exact AllReadyH.nil
end
end Go.Proofs.YtlgoeipgmjcboaaGreatDoor
