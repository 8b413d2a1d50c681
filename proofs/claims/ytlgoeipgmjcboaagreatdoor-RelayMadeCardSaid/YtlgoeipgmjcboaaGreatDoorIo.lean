/- relay.own: a message whose lists are its own. -/
import Derived.Test.YtlgoeipgmjcboaaGreatDoorMe
import Derived.Test.YtlgoeipgmjcboaaGreatDoorShelf
namespace Go.Proofs.YtlgoeipgmjcboaaGreatDoor
open Go.RowKit Me

theorem info9 : (Tryz.prog.info? 9).map (fun i => (i.zero, i.size, i.bytes)) = some (some (.string ⟨#[]⟩), 1, 16) := by kernel_rfl
theorem info42 : (Tryz.prog.info? 42).map (fun i => (i.zero, i.size, i.bytes)) = some (some (.agg #[.int .u8 0, .int .u32 0, .int .u64 0]), 3, 16) := by kernel_rfl
theorem sizeOf9 (w : World) : (Go.sizeOf 9).run Tryz.prog w = .ok 1 w := by kernel_rfl
theorem sizeOf42 (w : World) : (Go.sizeOf 42).run Tryz.prog w = .ok 3 w := by kernel_rfl
theorem sizeOf5 (w : World) : (Go.sizeOf 5).run Tryz.prog w = .ok 1 w := by kernel_rfl
/-- A slice whose address is a plain one. -/
def PlainS (v : Value) : Prop := ∃ A n c, v = .slice A n c ∧ ∀ p, A = some p → p.spot = none
theorem plain_own {w : World} {base : Nat} {e : TypeId} {size : Nat} {v : Value} {n : Nat} {xs : List Value} (h : w.ownsRow base e size v n xs) : PlainS v := by
  rcases ownsRow_form h with ⟨rfl, -⟩ | ⟨g, cap, rfl, -⟩
  · exact ⟨none, 0, 0, rfl, by simp⟩
  · exact ⟨_, _, _, rfl, by simp⟩
theorem qids_cell (L : List QidP) (j : Nat) (u : Value) (h : (L.flatMap qidC)[j]? = some u) : ∃ i q k, L[i]? = some q ∧ (qidC q)[k]? = some u ∧ j = i * 3 + k := by
  have h3 : j = j / 3 * 3 + j % 3 := by omega
  rw [h3, flat3 qidC (fun _ => rfl) L (j / 3) (j % 3) (by omega)] at h
  cases e : L[j / 3]? with
  | none => rw [e] at h; cases h
  | some q => rw [e] at h; exact ⟨j / 3, q, j % 3, e, h, h3⟩
theorem qids_len (L : List QidP) : (L.flatMap qidC).length = L.length * 3 := by
  induction L with
  | nil => rfl
  | cons q L ih => rw [List.flatMap_cons, List.length_append, ih, List.length_cons]; simp [qidC]; omega
theorem cloneN (L : List ByteArray) (v : Value) (w : World) (h : Rd w v (L.map Value.string)) (hp : PlainS v) (hl : L.length ≤ 100000000) :
    Calls Tryz.prog 62 #[v] w fun e w' => ∃ v', e = .returned v' ∧ w'.ownsRow w.heap.size 9 1 v' L.length (L.map Value.string) ∧ Mods [] w w' := by
  obtain ⟨A, c, rfl, h1, h2, h3⟩ := h
  obtain ⟨A', n', c', e0, hA⟩ := hp
  obtain rfl := (Value.slice.inj e0).1
  rw [List.length_map] at h1 ⊢
  cases A with
  | none =>
    have hL : L = [] := by
      cases L with
      | nil => rfl
      | cons x L =>
        obtain ⟨g, off, e, -⟩ := h3 0 (.string x) rfl
        cases e
    subst hL
    exact (Tryz.slices_Clone_nil _ c w).mono fun e w' ⟨e1, e2⟩ => ⟨_, e1, by rw [e2]; exact World.ownsRow_nil _ _ _ _, by rw [e2]; exact Mods.refl _ _⟩
  | some p =>
    obtain ⟨b, off, s⟩ := p
    obtain rfl := hA _ rfl
    obtain ⟨i0, hi, hz0, hz1, hz2⟩ := info_parts info9
    refine (Tryz.slices_Clone i0 _ 1 16 hi hz0 hz1 hz2 rfl (by omega) sizeOf9 b off L.length c (L.map Value.string) w (by simp) (by unfold maxLen; omega) (by omega) (fun j u hj => ?_) (fun u hu => ?_)).mono ?_
    · obtain ⟨g, off', e, hc⟩ := h3 j u hj
      cases e
      exact hc
    · obtain ⟨t, _, rfl⟩ := List.mem_map.1 hu
      rfl
    · rintro e w' ⟨v', rfl, ho, -, hb⟩
      exact ⟨v', rfl, ho, Mods.below hb _⟩
theorem cloneQ (L : List QidP) (v : Value) (w : World) (h : RdQ w v L) (hp : PlainS v) (hl : L.length ≤ 100000000) :
    Calls Tryz.prog 63 #[v] w fun e w' => ∃ v', e = .returned v' ∧ w'.ownsRow w.heap.size 42 3 v' L.length (L.flatMap qidC) ∧ Mods [] w w' := by
  obtain ⟨A, c, rfl, h1, h2, h3⟩ := h
  obtain ⟨A', n', c', e0, hA⟩ := hp
  obtain rfl := (Value.slice.inj e0).1
  cases A with
  | none =>
    have hL : L = [] := by
      cases L with
      | nil => rfl
      | cons x L =>
        obtain ⟨g, off, e, -⟩ := h3 0 x rfl
        cases e
    subst hL
    exact (Tryz.slices_Clone63_nil _ c w).mono fun e w' ⟨e1, e2⟩ => ⟨_, e1, by rw [e2]; exact World.ownsRow_nil _ _ _ _, by rw [e2]; exact Mods.refl _ _⟩
  | some p =>
    obtain ⟨b, off, s⟩ := p
    obtain rfl := hA _ rfl
    obtain ⟨i0, hi, hz0, hz1, hz2⟩ := info_parts info42
    refine (Tryz.slices_Clone63 i0 _ 3 16 hi hz0 hz1 hz2 rfl (by omega) sizeOf42 b off L.length c (L.flatMap qidC) w ?_ (by unfold maxLen; omega) (by omega) (fun j u hj => ?_) (fun u hu => ?_)).mono ?_
    · exact qids_len L
    · obtain ⟨i, q, k, hi, hk, rfl⟩ := qids_cell L j u hj
      obtain ⟨g, off', e, hc⟩ := h3 i q hi
      cases e
      have := hc k u hk
      rwa [Nat.add_assoc] at this
    · obtain ⟨q, _, hq⟩ := List.mem_flatMap.1 hu
      simp only [qidC, List.mem_cons, List.not_mem_nil, or_false] at hq
      rcases hq with rfl | rfl | rfl <;> rfl
    · rintro e w' ⟨v', rfl, ho, -, hb⟩
      exact ⟨v', rfl, ho, Mods.below hb _⟩
theorem cloneB (L : List UInt8) (v : Value) (w : World) (h : Rd w v (L.map byteV)) (hp : PlainS v) (hl : L.length ≤ 100000000) :
    Calls Tryz.prog 64 #[v] w fun e w' => ∃ v', e = .returned v' ∧ w'.ownsRow w.heap.size 5 1 v' L.length (L.map byteV) ∧ Mods [] w w' := by
  obtain ⟨A, c, rfl, h1, h2, h3⟩ := h
  obtain ⟨A', n', c', e0, hA⟩ := hp
  obtain rfl := (Value.slice.inj e0).1
  rw [List.length_map] at h1 ⊢
  cases A with
  | none =>
    have hL : L = [] := by
      cases L with
      | nil => rfl
      | cons x L =>
        obtain ⟨g, off, e, -⟩ := h3 0 (byteV x) rfl
        cases e
    subst hL
    exact (Tryz.slices_Clone64_nil _ c w).mono fun e w' ⟨e1, e2⟩ => ⟨_, e1, by rw [e2]; exact World.ownsRow_nil _ _ _ _, by rw [e2]; exact Mods.refl _ _⟩
  | some p =>
    obtain ⟨b, off, s⟩ := p
    obtain rfl := hA _ rfl
    obtain ⟨i0, hi, hz0, hz1, hz2⟩ := info_parts info5
    refine (Tryz.slices_Clone64 i0 _ 1 1 hi hz0 hz1 hz2 rfl (by omega) sizeOf5 b off L.length c (L.map byteV) w (by simp) (by unfold maxLen; omega) (by omega) (fun j u hj => ?_) (bytes_one L)).mono ?_
    · obtain ⟨g, off', e, hc⟩ := h3 j u hj
      cases e
      exact hc
    · rintro e w' ⟨v', rfl, ho, -, hb⟩
      exact ⟨v', rfl, ho, Mods.below hb _⟩
/-- A message's lists are its own: rows made since base. -/
structure OwnM (w : World) (base : Nat) (m : MsgP) (vn vq vd : Value) : Prop where
  names : w.ownsRow base 9 1 vn m.names.length (m.names.map Value.string)
  qids : w.ownsRow base 42 3 vq m.qids.length (m.qids.flatMap qidC)
  data : w.ownsRow base 5 1 vd m.data.length (m.data.map byteV)
theorem OwnM.mods {w w' : World} {base : Nat} {m : MsgP} {vn vq vd : Value} (h : OwnM w base m vn vq vd) (hm : Mods [] w w') : OwnM w' base m vn vq vd :=
  ⟨ownsRow_mods h.names hm (by simp), ownsRow_mods h.qids hm (by simp), ownsRow_mods h.data hm (by simp)⟩
structure PlainM (vn vq vd : Value) : Prop where
  names : PlainS vn
  qids : PlainS vq
  data : PlainS vd
theorem msgC_size (m : MsgP) (vn vq vd : Value) : (msgC m vn vq vd).length = 36 := rfl
theorem IsM.set11 {w : World} {b : Nat} {m : MsgP} {vn vq vd v : Value} (h : w.heap[b]? = some (.cells (msgC m vn vq vd).toArray 47 (0, 0))) : (w.setCell ⟨b, 11, none⟩ v).heap[b]? = some (.cells (msgC m v vq vd).toArray 47 (0, 0)) := heap_setCell_same _ _ _ _ _ _ h
theorem IsM.set12 {w : World} {b : Nat} {m : MsgP} {vn vq vd v : Value} (h : w.heap[b]? = some (.cells (msgC m vn vq vd).toArray 47 (0, 0))) : (w.setCell ⟨b, 12, none⟩ v).heap[b]? = some (.cells (msgC m vn v vd).toArray 47 (0, 0)) := heap_setCell_same _ _ _ _ _ _ h
theorem IsM.set22 {w : World} {b : Nat} {m : MsgP} {vn vq vd v : Value} (h : w.heap[b]? = some (.cells (msgC m vn vq vd).toArray 47 (0, 0))) : (w.setCell ⟨b, 22, none⟩ v).heap[b]? = some (.cells (msgC m vn vq v).toArray 47 (0, 0)) := heap_setCell_same _ _ _ _ _ _ h
theorem msg_one (m : MsgP) (vn vq vd : Value) (h : PlainM vn vq vd) : (msgC m vn vq vd).toArray.all (·.oneCell') = true := by
  obtain ⟨A, n, c, rfl, -⟩ := h.names
  obtain ⟨A1, n1, c1, rfl, -⟩ := h.qids
  obtain ⟨A2, n2, c2, rfl, -⟩ := h.data
  rw [Array.all_eq_true_iff_forall_mem]
  intro x hx
  simp only [msgC, statV, List.mem_toArray, List.mem_append, List.mem_cons, List.not_mem_nil, or_false] at hx
  rcases hx with hx | hx
  · rcases hx with rfl | rfl | rfl | rfl | rfl | rfl | rfl | rfl | rfl | rfl | rfl | rfl | rfl | rfl | rfl | rfl | rfl | rfl | rfl | rfl | rfl | rfl | rfl <;> rfl
  · rcases hx with rfl | rfl | rfl | rfl | rfl | rfl | rfl | rfl | rfl | rfl | rfl | rfl | rfl <;> rfl
theorem setCell_mods {w0 w : World} {b i : Nat} {u : Value} (h : Mods [] w0 w) (hb : w0.heap.size ≤ b) : Mods [] w0 (w.setCell ⟨b, i, none⟩ u) := h.setCell (p := ⟨b, i, none⟩) (Or.inr hb) u
set_option maxHeartbeats 1000000 in
theorem own_any (m : MsgP) (hl : m.names.length ≤ 100000000 ∧ m.qids.length ≤ 100000000 ∧ m.data.length ≤ 100000000) {vn vq vd : Value} (w : World) (hr : MsgR w m vn vq vd) (hp : PlainM vn vq vd) :
    Calls Tryz.prog 30 #[.agg (msgC m vn vq vd).toArray] w fun e w' => ∃ vn' vq' vd', e = .returned (.agg (msgC m vn' vq' vd').toArray) ∧ OwnM w' w.heap.size m vn' vq' vd' ∧ Mods [] w w' := by
  have HRD := Lib.hid hr
  have HP := Lib.hid hp
  have H0 := Lib.hid (heap_alloc_new w (.cells (msgC m vn vq vd).toArray 47))
  have e11 : (msgC m vn vq vd)[11]? = some vn := rfl
  have hl1 := hl.1
  have hl2 := hl.2.1
  have hl3 := hl.2.2
  clear hr hp hl
  go_enter Tryz.func30, Tryz.ntmps30
  go_wp2_with fail
  refine (cloneN m.names vn _ ((HRD.out.names.mods ((Mods.refl [] w).alloc _) (by simp)).mods ((Mods.refl [] _).alloc _) (by simp)) HP.out.names hl1).mono ?_; rintro e w1 ⟨v1, rfl, ho1, hm1⟩
  have hmm1 := (((Mods.refl [] w).alloc (.cells (msgC m vn vq vd).toArray 47)).alloc _).trans hm1 (by simp)
  have hr1 := hm1.heap ((alloc_old _ (by simp)).trans H0.out) (by simp)
  have hz1 := hm1.heap (heap_alloc_new _ _) (by simp)
  simp only [World.size_alloc] at hz1 ho1
  have ho1' := ownsRow_base ho1 (B := w.heap.size) (by omega)
  obtain ⟨A1, c1, rfl, -⟩ := ownsRow_slice ho1
  have n1 := ownsRow_not ho1 hr1 (by decide)
  generalize hb : w.heap.size = b at *
  have c11 : w1.cell? ⟨b, 11, none⟩ = some vn := by rw [cell_of_row _ _ _ _ _ _ hr1]; rfl
  have f11 : w1.frozen? ⟨b, 11, none⟩ = false := frozen_of_row _ _ _ _ _ hr1
  have c12 : w1.cell? ⟨b, 12, none⟩ = some vq := by rw [cell_of_row _ _ _ _ _ _ hr1]; rfl
  have M1 := Lib.hid (setCell_mods (i := 11) (u := .slice A1 m.names.length c1) hmm1 (b := b) (by omega))
  have R1 := Lib.hid (IsM.set11 (v := .slice A1 m.names.length c1) hr1)
  have Z1 := Lib.hid ((heap_setCell_other w1 ⟨b, 11, none⟩ (b + 1) (.slice A1 m.names.length c1) (by show b + 1 ≠ b; omega)).trans hz1)
  have O1 := Lib.hid (ownsRow_mods ho1' ((Mods.refl [b] w1).setCell (p := ⟨b, 11, none⟩) (Or.inl (by simp)) (.slice A1 m.names.length c1)) (fun k hk hm => by simp at hm; subst hm; exact n1 hk))
  clear hmm1 hr1 hz1 ho1 ho1' n1 hm1 e11 H0
  go_wp2_with fail
  refine (cloneQ m.qids vq _ (HRD.out.qids.mods M1.out) HP.out.qids hl2).mono ?_; rintro e w2 ⟨v2, rfl, ho2, hm2⟩
  have hmm2 := M1.out.trans hm2 (by simp)
  have hr2 := hm2.heap R1.out (by simp)
  have hz2 := hm2.heap Z1.out (by simp)
  have ho2' := ownsRow_base ho2 (B := b) (by have := M1.out.size; omega)
  have n2 := ownsRow_not ho2 hr2 (by decide)
  have o1' := ownsRow_mods O1.out hm2 (by simp)
  have n1 := ownsRow_not o1' hr2 (by decide)
  obtain ⟨A2, c2, rfl, -⟩ := ownsRow_slice ho2
  have d12 : w2.cell? ⟨b, 12, none⟩ = some vq := by rw [cell_of_row _ _ _ _ _ _ hr2]; rfl
  have f12 : w2.frozen? ⟨b, 12, none⟩ = false := frozen_of_row _ _ _ _ _ hr2
  have d22 : w2.cell? ⟨b, 22, none⟩ = some vd := by rw [cell_of_row _ _ _ _ _ _ hr2]; rfl
  have M2 := Lib.hid (setCell_mods (i := 12) (u := .slice A2 m.qids.length c2) hmm2 (b := b) (by omega))
  have R2 := Lib.hid (IsM.set12 (v := .slice A2 m.qids.length c2) hr2)
  have Z2 := Lib.hid ((heap_setCell_other w2 ⟨b, 12, none⟩ (b + 1) (.slice A2 m.qids.length c2) (by show b + 1 ≠ b; omega)).trans hz2)
  have O2 := Lib.hid (ownsRow_mods ho2' ((Mods.refl [b] w2).setCell (p := ⟨b, 12, none⟩) (Or.inl (by simp)) (.slice A2 m.qids.length c2)) (fun k hk hm => by simp at hm; subst hm; exact n2 hk))
  have O12 := Lib.hid (ownsRow_mods o1' ((Mods.refl [b] w2).setCell (p := ⟨b, 12, none⟩) (Or.inl (by simp)) (.slice A2 m.qids.length c2)) (fun k hk hm => by simp at hm; subst hm; exact n1 hk))
  clear hmm2 hr2 hz2 ho2 ho2' n2 n1 hm2 o1' M1 R1 Z1 O1 c11 f11 c12
  go_wp2_with fail
  refine (cloneB m.data vd _ (HRD.out.data.mods M2.out (by simp)) HP.out.data hl3).mono ?_; rintro e w3 ⟨v3, rfl, ho3, hm3⟩
  have hmm3 := M2.out.trans hm3 (by simp)
  have hr3 := hm3.heap R2.out (by simp)
  have hz3 := hm3.heap Z2.out (by simp)
  have ho3' := ownsRow_base ho3 (B := b) (by have := M2.out.size; omega)
  have n3 := ownsRow_not ho3 hr3 (by decide)
  have o1' := ownsRow_mods O12.out hm3 (by simp)
  have o2' := ownsRow_mods O2.out hm3 (by simp)
  have n1 := ownsRow_not o1' hr3 (by decide)
  have n2 := ownsRow_not o2' hr3 (by decide)
  obtain ⟨A3, c3, rfl, -⟩ := ownsRow_slice ho3
  have d22 : w3.cell? ⟨b, 22, none⟩ = some vd := by rw [cell_of_row _ _ _ _ _ _ hr3]; rfl
  have f22 : w3.frozen? ⟨b, 22, none⟩ = false := frozen_of_row _ _ _ _ _ hr3
  have hM3 := setCell_mods (i := 22) (u := .slice A3 m.data.length c3) hmm3 (b := b) (by omega)
  have R3 := Lib.hid (IsM.set22 (v := .slice A3 m.data.length c3) hr3)
  have Z3 := Lib.hid ((heap_setCell_other w3 ⟨b, 22, none⟩ (b + 1) (.slice A3 m.data.length c3) (by show b + 1 ≠ b; omega)).trans hz3)
  have hset := fun k (hne : k ≠ b) => (show (w3.setCell ⟨b, 22, none⟩ (.slice A3 m.data.length c3)).heap[k]? = w3.heap[k]? from heap_setCell_other _ _ _ _ hne)
  have hmb := (Mods.refl [b] w3).setCell (p := ⟨b, 22, none⟩) (Or.inl (by simp)) (.slice A3 m.data.length c3)
  have O3 := Lib.hid (ownsRow_mods ho3' hmb (fun k hk hm => by simp at hm; subst hm; exact n3 hk))
  have O13 := Lib.hid (ownsRow_mods o1' hmb (fun k hk hm => by simp at hm; subst hm; exact n1 hk))
  have O23 := Lib.hid (ownsRow_mods o2' hmb (fun k hk hm => by simp at hm; subst hm; exact n2 hk))
  have M3 := Lib.hid hM3
  clear hmm3 hr3 hz3 ho3 ho3' n1 n2 n3 hm3 o1' o2' M2 R2 Z2 O2 O12 d12 f12 hset hmb hM3
  go_wp2_with (first | (refine wpList_load_row rfl 47 _ rfl b rfl 47 (msgC m (.slice A1 m.names.length c1) (.slice A2 m.qids.length c2) (.slice A3 m.data.length c3)).toArray (0, 0) _ R3.out Tryz.underlying47 rfl (info47 m _ _ _) ?_) | (refine wpList_store_row rfl 47 _ _ rfl (b + 1) (msgC m (.slice A1 m.names.length c1) (.slice A2 m.qids.length c2) (.slice A3 m.data.length c3)).toArray rfl rfl 47 _ Z3.out (info47 m _ _ _) rfl (msg_one m _ _ _ ⟨plain_own O13.out, plain_own O23.out, plain_own O3.out⟩) ?_))
  have hset := setRow_heap (w3.setCell ⟨b, 22, none⟩ (.slice A3 m.data.length c3)) (b + 1) _ (msgC m (.slice A1 m.names.length c1) (.slice A2 m.qids.length c2) (.slice A3 m.data.length c3)).toArray 47 _ Z3.out
  refine bodyPost_ret (v := .agg (msgC m (.slice A1 m.names.length c1) (.slice A2 m.qids.length c2) (.slice A3 m.data.length c3)).toArray) (results_cell_row Tryz.results30 _ _ (b + 1) 47 _ _ _ rfl hset Tryz.underlying47 rfl (info47 m _ _ _)) rfl ?_
  have hm : Mods [b + 1] (w3.setCell ⟨b, 22, none⟩ (.slice A3 m.data.length c3)) ((w3.setCell ⟨b, 22, none⟩ (.slice A3 m.data.length c3)).setRow (b + 1) (msgC m (.slice A1 m.names.length c1) (.slice A2 m.qids.length c2) (.slice A3 m.data.length c3)).toArray) :=
    ⟨rfl, rfl, rfl, by simp, fun k _ hk => setRow_other _ _ _ _ (fun e => hk (by simp [e]))⟩
  have n1 := ownsRow_not O13.out Z3.out (by decide)
  have n2 := ownsRow_not O23.out Z3.out (by decide)
  have n3 := ownsRow_not O3.out Z3.out (by decide)
  subst hb
  exact ⟨_, _, _, rfl, ⟨ownsRow_mods O13.out hm (fun k hk e => by simp at e; subst e; exact n1 hk), ownsRow_mods O23.out hm (fun k hk e => by simp at e; subst e; exact n2 hk), ownsRow_mods O3.out hm (fun k hk e => by simp at e; subst e; exact n3 hk)⟩,
    M3.out.trans hm (fun k hk => Or.inr (by simp at hk; omega))⟩
end Go.Proofs.YtlgoeipgmjcboaaGreatDoor
