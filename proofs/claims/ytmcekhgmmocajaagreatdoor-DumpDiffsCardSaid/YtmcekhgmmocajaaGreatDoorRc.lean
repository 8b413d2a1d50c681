/- The reference's Reduced. -/
import Derived.Test.YtmcekhgmmocajaaGreatDoorRb
import Derived.Test.YtmcekhgmmocajaaGreatDoorNl
import Derived.Deep.RegionLaw
namespace Go.Proofs.YtmcekhgmmocajaaGreatDoor
open Go.RowKit Me

namespace Me
theorem step_app {P : Program} {ops : Array Oper} {o : Oper} {a : Act} {w : World} {K : Act → World → Prop} {Q : Exit → Act → World → Prop} {E : Prop} (hgd : o.guard = none) (s x : Operand) (t tx : TypeId)
    (ho : o.op = .call { callee := .builtin .append, args := #[s, x], argTypes := #[t, tx] })
    (base : Nat) (e : TypeId) (i : TypeInfo) (z : Value) (size bytes : Nat) (ht : P.underlying t = some (.slice e)) (hi : P.info? e = some i) (hz : i.zero = some z)
    (hsize : i.size = size) (hby : i.bytes = bytes) (hzs : z.cells.size = size)
    (v : Value) (n : Nat) (xs : List Value) (hs : a.eval s = v) (hown : w.ownsRow base e size v n xs)
    (vx : Value) (m : Nat) (news : List Value) (hx : a.eval x = vx) (hsrc : Src P size tx vx m news w)
    (h63 : n + m ≤ maxLen) (hbytes : (n + m) * bytes ≤ 140737488355328) (hbase : base ≤ w.heap.size)
    (h : ∀ v' w', w'.ownsRow base e size v' (n + m) (xs ++ news) → w.grownBy w' v.ownBlock → (v'.ownBlock = v.ownBlock ∨ v'.ownBlock = some w.heap.size) → K (a.put o.dst v') w') :
    if Region.wanted o (yielded ops a.tmps) = true then Oper.wp P o a w K Q else E := by
  have hw : Region.wanted o (yielded ops a.tmps) = true := by simp [Region.wanted, hgd]
  rw [if_pos hw]
  obtain ⟨v', w', hr, h2, h3, h4⟩ := run_app (P := P) w base t tx o.type e i z size bytes ht hi hz hsize hby hzs v n xs hown vx m news hsrc h63 hbytes hbase
  unfold Oper.wp execOp
  simp only [ho, resolve, invoke, builtin, Sem.run_bind, Sem.run_pure, Result.andThen_ok, List.map_toArray, List.map_cons, List.map_nil, hs, hx, hr]
  exact h v' w' h2 h3 h4
end Me
theorem src_drew {P : Program} {tx e' : TypeId} (hk : P.underlying tx = some (.slice e')) (w : World) (x : Value) (t : TypeId) (h1 : x.oneCell' = true) : Src P 1 tx (.slice (some ⟨w.heap.size, 0, none⟩) 1 1) 1 [x] ((w.alloc (.cells #[x] t)).drew) :=
  Src.ofSlice _ hk _ _ _ _ rfl (cell_one_new _ _ _) (by intro u hu; simp at hu; subst hu; exact h1)
def RelRr (r : Bool) (L : List ByteArray) (b2 : Nat) (w1 : World) (i : Value) (wr : World) : Prop :=
  ∃ k : Nat, k ≤ L.length ∧ i = .int .i64 (k : Int) ∧ Mods [b2] w1 wr ∧ ∃ v, wr.heap[b2]? = some (.cells #[.bool r, v] 103 (0, 0)) ∧
    wr.ownsRow w1.heap.size 9 1 v (reduce r (L.take k)).length ((reduce r (L.take k)).map Value.string)
set_option maxRecDepth 100000 in
set_option maxHeartbeats 4000000 in
theorem rreduced_any (r : Bool) (L : List ByteArray) (v : Value) (w : World) (hv : Rd w v (L.map Value.string)) (hl : L.length ≤ 4294967290) :
    Calls Tryz.prog 97 #[.agg #[.bool r, v]] w fun e w' => ∃ u, e = .returned (.agg #[.bool r, u]) ∧ Mods [] w w' ∧ w'.ownsRow w.heap.size 9 1 u (reduce r L).length ((reduce r L).map Value.string) := by
  obtain ⟨i0, hi, hz0, hz1, hz2⟩ := info_parts info9
  have HV := Lib.hid (fun w' (hw : Mods [] w w') => hv.mods hw (by simp))
  obtain ⟨A, c, rfl, -⟩ := hv
  rw [List.length_map] at *
  have HWa := Lib.hid ((((Mods.refl [] w).alloc (.cells #[.bool r, .slice A L.length c] 103)).alloc (.cells #[.bool false, .slice none 0 0] 103)).alloc (.cells #[.bool r, .slice none 0 0] 103))
  have HB0a : Hid ((((w.alloc (.cells #[.bool r, .slice A L.length c] 103)).alloc (.cells #[.bool false, .slice none 0 0] 103)).alloc (.cells #[.bool r, .slice none 0 0] 103)).heap[w.heap.size]? = some (.cells #[.bool r, .slice A L.length c] 103 (0, 0))) := Lib.hid (by
    show (((w.heap.push _).push _).push _)[_]? = _
    simp [Array.getElem?_push, Array.getElem_push]; try omega)
  have HB1a : Hid ((((w.alloc (.cells #[.bool r, .slice A L.length c] 103)).alloc (.cells #[.bool false, .slice none 0 0] 103)).alloc (.cells #[.bool r, .slice none 0 0] 103)).heap[w.heap.size + 1]? = some (.cells #[.bool false, .slice none 0 0] 103 (0, 0))) := Lib.hid (by
    show (((w.heap.push _).push _).push _)[_]? = _
    simp [Array.getElem_push])
  have HB2a : Hid ((((w.alloc (.cells #[.bool r, .slice A L.length c] 103)).alloc (.cells #[.bool false, .slice none 0 0] 103)).alloc (.cells #[.bool r, .slice none 0 0] 103)).heap[w.heap.size + 2]? = some (.cells #[.bool r, .slice none 0 0] 103 (0, 0))) := Lib.hid (by
    show (((w.heap.push _).push _).push _)[_]? = _
    simp [Array.getElem_push])
  have hSa : (((w.alloc (.cells #[.bool r, .slice A L.length c] 103)).alloc (.cells #[.bool false, .slice none 0 0] 103)).alloc (.cells #[.bool r, .slice none 0 0] 103)).heap.size = w.heap.size + 3 := by simp
  have HS := Lib.hid hSa
  clear hSa
  go_enter Tryz.func97, Tryz.ntmps97
  go_wp2_with fail
  generalize hw1 : ((w.alloc (.cells #[.bool r, .slice A L.length c] 103)).alloc (.cells #[.bool false, .slice none 0 0] 103)).alloc (.cells #[.bool r, .slice none 0 0] 103) = w1 at *
  clear hw1
  generalize hbb : w.heap.size = b at *
  go_loopw [4] (fun i wr => RelRr r L (b + 2) w1 i wr) (fun i _ => L.length - (intOf i).toNat)
  case atStart => exact ⟨0, by omega, rfl, Mods.refl _ _, _, HB2a.out, World.ownsRow_nil _ _ _ _⟩
  case round =>
    obtain ⟨k, hk, rfl, hm, vq, hq, ho⟩ := hrel
    obtain ⟨Aq, cq, rfl⟩ := own_ctor ho
    have HM := Lib.hid hm
    have HQ := Lib.hid hq
    have HO := Lib.hid ho
    have HMW : Hid (Mods [] w wr) := Lib.hid (HWa.out.trans hm (by intro x hx; simp at hx; right; omega))
    have HB0 := Lib.hid (hm.heap HB0a.out (by simp))
    have HB1 := Lib.hid (hm.heap HB1a.out (by simp))
    have a0 : wr.cell? ⟨b, 0, none⟩ = some (.bool r) := by rw [cell_of_row _ _ _ _ _ _ HB0.out]; rfl
    have a1 : wr.cell? ⟨b, 1, none⟩ = some (.slice A L.length c) := by rw [cell_of_row _ _ _ _ _ _ HB0.out]; rfl
    have q0 : wr.cell? ⟨b + 2, 0, none⟩ = some (.bool r) := by rw [cell_of_row _ _ _ _ _ _ hq]; rfl
    have q1 : wr.cell? ⟨b + 2, 1, none⟩ = some (.slice Aq (reduce r (L.take k)).length cq) := by rw [cell_of_row _ _ _ _ _ _ hq]; rfl
    have KL0 := reduce_length r L k
    rcases Nat.lt_or_ge k L.length with hlt | hge
    · obtain ⟨p, hp⟩ : ∃ p, L[k]? = some p := ⟨_, List.getElem?_eq_getElem hlt⟩
      obtain ⟨A', c', e9, -, -, h3⟩ := HV.out wr HMW.out
      obtain ⟨rfl, -, -⟩ := Value.slice.inj e9
      obtain ⟨g, off, rfl, cp⟩ := h3 k (.string p) (by rw [List.getElem?_map, hp]; rfl)
      have KL : Hid ((reduce r (L.take k)).length ≤ 4294967290) := Lib.hid (by omega)
      have KS := Lib.hid (reduce_step r L k p hp)
      have f1 : wr.frozen? ⟨b + 2, 1, none⟩ = false := frozen_of_row _ _ _ _ _ hq
      clear hm hq ho e9 h3 hp
      generalize hqe : reduce r (L.take k) = q at *
      cases e1 : p.toList == [46, 46]
      · have HQ2 := Lib.hid (KS.out.trans (red_app (r := r) (q := q) e1))
        clear KS
        have hM2 := (Mods.refl [] wr).alloc (.cells #[.string p] 9)
        have q1a : (wr.alloc (.cells #[.string p] 9)).cell? ⟨b + 2, 1, none⟩ = some (.slice Aq q.length cq) := by rw [hM2.cell (World.block_lt_of_cell? _ _ q1) (by simp)]; exact q1
        clear hM2
        clear hqe
        go_wp2_with fail
        have HOA : Hid (((wr.alloc (.cells #[.string p] 9)).drew).ownsRow w1.heap.size 9 1 (.slice Aq q.length cq) q.length (q.map Value.string)) := Lib.hid (HO.out.alloc _)
        have hsz1 : w1.heap.size ≤ ((wr.alloc (.cells #[.string p] 9)).drew).heap.size := by have := HM.out.size; show _ ≤ (wr.alloc _).heap.size; simp; omega
        go_region_law (refine step_app rfl _ _ 77 77 rfl w1.heap.size 9 i0 (.string ⟨#[]⟩) 1 16 Tryz.underlying77 hi hz0 hz1 hz2 rfl (.slice Aq q.length cq) q.length (q.map Value.string) rfl HOA.out (.slice (some ⟨wr.heap.size, 0, none⟩) 1 1) 1 [.string p] rfl (src_drew Tryz.underlying77 _ _ _ rfl) (by have := KL.out; unfold maxLen; omega) (by have := KL.out; omega) hsz1 ?_; intro v2 w4 hown hgrow hat; have hG := (((Mods.refl (Value.slice Aq q.length cq).ownBlock.toList wr).alloc (.cells #[.string p] 9)).drew).grown hgrow (fun x hx => Or.inl (by rw [hx]; simp)); have hne : b + 2 ∉ (Value.slice Aq q.length cq).ownBlock.toList := (fun h => by have h1 := (HO.out.lt (b + 2) (by simpa using h)).1; have h2 := HS.out; omega); have hv4 := hG.heap HQ.out hne; have q0' : w4.cell? ⟨b + 2, 0, none⟩ = some (.bool r) := (by rw [cell_of_row _ _ _ _ _ _ hv4]; rfl); have q1' : w4.cell? ⟨b + 2, 1, none⟩ = some (.slice Aq q.length cq) := (by rw [cell_of_row _ _ _ _ _ _ hv4]; rfl); have f1' : w4.frozen? ⟨b + 2, 1, none⟩ = false := frozen_of_row _ _ _ _ _ hv4; have HG4 := Lib.hid ((((HM.out.alloc (.cells #[.string p] 9)).drew)).grown hgrow (fun x hx => Or.inr (HO.out.lt x hx).1)); have HV4 := Lib.hid hv4; obtain ⟨A2, c2, rfl⟩ := own_ctor hown; have HN := Lib.hid hown; clear hown hgrow hat hG hne hv4)
        all_goals go_wp2_with fail
        all_goals refine ⟨⟨k + 1, by omega, rfl, HG4.out.setCell (Or.inl (by simp)) _, _, (by rw [heap_setCell_same _ _ _ _ _ _ HV4.out]; rfl), ?_⟩, by simp only [intOf]; omega⟩
        all_goals refine ownsRow_set ?_ ?_ _
        all_goals first
          | (rw [HQ2.out]; simpa using HN.out)
          | (intro h; have h1 := (HN.out.lt (b + 2) h).1; have h2 := HS.out; omega)
      · have hpd : p = ⟨#[46, 46]⟩ := data_inj (by
          have := eq_of_beq e1
          rwa [Lib.toList_data] at this)
        cases hg : q.getLast? with
        | none =>
          obtain rfl := List.getLast?_eq_none_iff.1 hg
          have HGL : Hid (∀ l, ([] : List ByteArray).getLast? = some l → (l.toList == [46, 46]) = true) := Lib.hid (fun l h => by cases h)
          clear hg hqe
          simp only [List.length_nil] at HO HQ KL q1 KL0
          cases r
          · have HQ2 := Lib.hid (KS.out.trans (red_none (r := false) e1 HGL.out))
            clear KS
            go_wp2_with (at_builtin; go_must (refine wpList_app _ rfl _ _ 77 77 rfl w1.heap.size 9 i0 (.string ⟨#[]⟩) 1 16 Tryz.underlying77 hi hz0 hz1 hz2 rfl _ _ _ rfl (HO.out.alloc _) _ 1 [.string ⟨#[46, 46]⟩] rfl ?c1 ?c2 ?c3 ?c4 ?_))
            case c1 => exact src_one Tryz.underlying77 _ _ _ rfl
            case c2 => have := KL.out; unfold maxLen; omega
            case c3 => have := KL.out; omega
            case c4 => have := HM.out.size; simp; omega
            intro v2 w4 hown hgrow hat
            have hG := ((Mods.refl (Value.slice Aq 0 cq).ownBlock.toList wr).alloc (.cells #[.string ⟨#[46, 46]⟩] 9)).grown hgrow (fun x hx => Or.inl (by rw [hx]; simp))
            have hne : b + 2 ∉ (Value.slice Aq 0 cq).ownBlock.toList := (fun h => by have h1 := (HO.out.lt (b + 2) (by simpa using h)).1; have h2 := HS.out; omega)
            have hv4 := hG.heap HQ.out hne
            have q0' : w4.cell? ⟨b + 2, 0, none⟩ = some (.bool false) := (by rw [cell_of_row _ _ _ _ _ _ hv4]; rfl)
            have q1' : w4.cell? ⟨b + 2, 1, none⟩ = some (.slice Aq 0 cq) := (by rw [cell_of_row _ _ _ _ _ _ hv4]; rfl)
            have f1' : w4.frozen? ⟨b + 2, 1, none⟩ = false := frozen_of_row _ _ _ _ _ hv4
            have HG4 := Lib.hid ((HM.out.alloc (.cells #[.string ⟨#[46, 46]⟩] 9)).grown hgrow (fun x hx => Or.inr (HO.out.lt x hx).1))
            have HV4 := Lib.hid hv4
            obtain ⟨A2, c2, rfl⟩ := own_ctor hown
            have HN := Lib.hid hown
            clear hown hgrow hat hG hne hv4
            go_wp2_with fail
            refine ⟨⟨k + 1, by omega, rfl, HG4.out.setCell (Or.inl (by simp)) _, _, (by rw [heap_setCell_same _ _ _ _ _ _ HV4.out]; rfl), ?_⟩, by simp only [intOf]; omega⟩
            refine ownsRow_set ?_ ?_ _
            · rw [HQ2.out, hpd]; simpa using HN.out
            · intro h; have h1 := (HN.out.lt (b + 2) h).1; have h2 := HS.out; omega
          · have HQ2 := Lib.hid (KS.out.trans (red_none (r := true) e1 HGL.out))
            clear KS
            go_wp2_with fail
            refine ⟨⟨k + 1, by omega, rfl, HM.out, _, HQ.out, ?_⟩, by simp only [intOf]; omega⟩
            rw [HQ2.out]; simpa using HO.out
        | some l =>
          obtain ⟨q', rfl⟩ := List.getLast?_eq_some_iff.1 hg
          obtain ⟨g2, rfl⟩ : ∃ g, Aq = some ⟨g, 0, none⟩ := by
            rcases ownsRow_form HO.out with ⟨e, h1, _⟩ | ⟨g, cap, e, _⟩
            · simp at h1
            · cases e; exact ⟨g, rfl⟩
          have c3 : wr.cell? ⟨g2, q'.length, none⟩ = some (.string l) := by
            have := HO.out.cells (g := g2) rfl q'.length (.string l) (by rw [List.getElem?_map]; simp)
            rw [Addr.add_lit] at this
            simpa using this
          have hlc : q'.length + 1 ≤ cq := by
            rcases ownsRow_form HO.out with ⟨e, _⟩ | ⟨g, cap, e, h1, _⟩
            · cases e
            · cases e; simpa using h1
          have hlen : (q' ++ [l]).length = q'.length + 1 := by simp
          rw [hlen] at HO HQ KL q1 KL0
          have hkl := KL.out
          cases e3 : l.toList == [46, 46]
          · have HQ2 := Lib.hid (KS.out.trans (red_drop e1 hg e3))
            clear KS hg hqe
            generalize hm : q'.length = m at *
            go_wp2_with fail
            refine ⟨⟨k + 1, by omega, rfl, HM.out.setCell (Or.inl (by simp)) _, _, (by rw [heap_setCell_same _ _ _ _ _ _ HQ.out]; rfl), ?_⟩, by simp only [intOf]; omega⟩
            rw [HQ2.out]
            refine ownsRow_set ?_ ?_ _
            · have hh := ownsRow_cut HO.out m (by omega)
              simpa [hm] using hh
            · intro h
              have h1 := (HO.out.lt (b + 2) h).1
              have h2 := HS.out
              omega
          · have HGL : Hid (∀ x, (q' ++ [l]).getLast? = some x → (x.toList == [46, 46]) = true) := Lib.hid (fun x h => by rw [hg] at h; cases h; exact e3)
            clear hg hqe
            generalize hm : q'.length = m at *
            cases r
            · have HQ2 := Lib.hid (KS.out.trans (red_none (r := false) e1 HGL.out))
              clear KS
              go_wp2_with (at_builtin; go_must (refine wpList_app _ rfl _ _ 77 77 rfl w1.heap.size 9 i0 (.string ⟨#[]⟩) 1 16 Tryz.underlying77 hi hz0 hz1 hz2 rfl _ _ _ rfl (HO.out.alloc _) _ 1 [.string ⟨#[46, 46]⟩] rfl ?c1 ?c2 ?c3 ?c4 ?_))
              case c1 => exact src_one Tryz.underlying77 _ _ _ rfl
              case c2 => have := KL.out; unfold maxLen; omega
              case c3 => have := KL.out; omega
              case c4 => have := HM.out.size; simp; omega
              intro v2 w4 hown hgrow hat
              have hG := ((Mods.refl (Value.slice (some ⟨g2, 0, none⟩) (m + 1) cq).ownBlock.toList wr).alloc (.cells #[.string ⟨#[46, 46]⟩] 9)).grown hgrow (fun x hx => Or.inl (by rw [hx]; simp))
              have hne : b + 2 ∉ (Value.slice (some ⟨g2, 0, none⟩) (m + 1) cq).ownBlock.toList := (fun h => by have h1 := (HO.out.lt (b + 2) (by simpa using h)).1; have h2 := HS.out; omega)
              have hv4 := hG.heap HQ.out hne
              have q0' : w4.cell? ⟨b + 2, 0, none⟩ = some (.bool false) := (by rw [cell_of_row _ _ _ _ _ _ hv4]; rfl)
              have q1' : w4.cell? ⟨b + 2, 1, none⟩ = some (.slice (some ⟨g2, 0, none⟩) (m + 1) cq) := (by rw [cell_of_row _ _ _ _ _ _ hv4]; rfl)
              have f1' : w4.frozen? ⟨b + 2, 1, none⟩ = false := frozen_of_row _ _ _ _ _ hv4
              have HG4 := Lib.hid ((HM.out.alloc (.cells #[.string ⟨#[46, 46]⟩] 9)).grown hgrow (fun x hx => Or.inr (HO.out.lt x hx).1))
              have HV4 := Lib.hid hv4
              obtain ⟨A2, c2, rfl⟩ := own_ctor hown
              have HN := Lib.hid hown
              clear hown hgrow hat hG hne hv4
              go_wp2_with fail
              refine ⟨⟨k + 1, by omega, rfl, HG4.out.setCell (Or.inl (by simp)) _, _, (by rw [heap_setCell_same _ _ _ _ _ _ HV4.out]; rfl), ?_⟩, by simp only [intOf]; omega⟩
              refine ownsRow_set ?_ ?_ _
              · rw [HQ2.out, hpd]; simpa [hm] using HN.out
              · intro h; have h1 := (HN.out.lt (b + 2) h).1; have h2 := HS.out; omega
            · have HQ2 := Lib.hid (KS.out.trans (red_none (r := true) e1 HGL.out))
              clear KS
              go_wp2_with fail
              refine ⟨⟨k + 1, by omega, rfl, HM.out, _, HQ.out, ?_⟩, by simp only [intOf]; omega⟩
              rw [HQ2.out]; simpa [hm] using HO.out
    · obtain rfl : k = L.length := by omega
      rw [List.take_length] at HO HQ q1
      have d0 : wr.cell? ⟨b + 1, 0, none⟩ = some (.bool false) := by rw [cell_of_row _ _ _ _ _ _ HB1.out]; rfl
      have d1 : wr.cell? ⟨b + 1, 1, none⟩ = some (.slice none 0 0) := by rw [cell_of_row _ _ _ _ _ _ HB1.out]; rfl
      have k0 : wr.frozen? ⟨b + 1, 0, none⟩ = false := frozen_of_row _ _ _ _ _ HB1.out
      have k1 : wr.frozen? ⟨b + 1, 1, none⟩ = false := frozen_of_row _ _ _ _ _ HB1.out
      clear hm hq ho
      go_wp2_with fail
      refine bodyPost_ret (v := .agg #[.bool r, .slice Aq (reduce r L).length cq]) (by simp [results, Tryz.results97, go_sem, d0, d1]) rfl ?_
      refine ⟨_, rfl, (HMW.out.setCell (Or.inr (by show w.heap.size ≤ b + 1; omega)) _).setCell (Or.inr (by show w.heap.size ≤ b + 1; omega)) _, ownsRow_set (ownsRow_set (ownsRow_base HO.out (by rw [HS.out]; omega)) ?_ _) ?_ _⟩
      · intro h; have h1 := (HO.out.lt (b + 1) h).1; have h2 := HS.out; omega
      · intro h; have h1 := (HO.out.lt (b + 1) h).1; have h2 := HS.out; omega
end Go.Proofs.YtmcekhgmmocajaaGreatDoor
