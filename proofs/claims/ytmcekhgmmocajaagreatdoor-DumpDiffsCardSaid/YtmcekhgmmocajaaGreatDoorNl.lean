/- names.Clean, walked. -/
import Derived.Test.YtmcekhgmmocajaaGreatDoorNj
namespace Go.Proofs.YtmcekhgmmocajaaGreatDoor
open Go.RowKit Me

/-- The loop of Clean behind k parts. -/
def RelC (r : Bool) (L : List ByteArray) (w1 : World) (v i : Value) (wr : World) : Prop :=
  ∃ k : Nat, k ≤ L.length ∧ i = .int .i64 (k : Int) ∧ Mods [] w1 wr ∧ wr.ownsRow w1.heap.size 9 1 v (reduce r (L.take k)).length ((reduce r (L.take k)).map Value.string)
theorem red_app {r : Bool} {q : List ByteArray} {p : ByteArray} (h : (p.toList == [46, 46]) = false) : redStep r q p = q ++ [p] := by
  unfold redStep up2
  rw [h]
  rfl
theorem red_drop {r : Bool} {q : List ByteArray} {p l : ByteArray} (h : (p.toList == [46, 46]) = true) (hl : q.getLast? = some l) (h2 : (l.toList == [46, 46]) = false) : redStep r q p = q.dropLast := by
  unfold redStep up2
  rw [h, hl]
  simp [h2]
theorem red_none {r : Bool} {q : List ByteArray} {p : ByteArray} (h : (p.toList == [46, 46]) = true) (hl : ∀ l, q.getLast? = some l → (l.toList == [46, 46]) = true) : redStep r q p = if r then q else q ++ [p] := by
  unfold redStep up2
  rw [h]
  cases hq : q.getLast? with
  | none => rfl
  | some l => simp [hl l hq]
set_option maxRecDepth 100000 in
set_option maxHeartbeats 1000000 in
theorem nclean_any (s : ByteArray) (w : World) (hs : s.size < 4294967281) (hT : Tabs w) :
    Calls Tryz.prog 44 #[.string s] w fun e w' => e = .returned (.tuple #[.string (if fit (pieces s) then cleanB s else ⟨#[]⟩), .int .i64 (if fit (pieces s) then 0 else 51)]) ∧ Mods [] w w' := by
  obtain ⟨i0, hi, hz0, hz1, hz2⟩ := info_parts info9
  have H1 := Lib.hid (nsplit_any s w hs hT)
  have hl := pieces_length s
  have hcb := Lib.countB_le ⟨#[47]⟩ (by decide) _ s (Nat.le_refl _)
  have hk : (kept (pieces s)).length ≤ 4294967290 := by
    refine Nat.le_trans (List.length_filter_le _ _) ?_
    omega
  have HJL : ∀ r, Hid ((joinS (reduce r (kept (pieces s)))).length ≤ 140737488355328) := by
    intro r
    exact Lib.hid (Nat.le_trans (clean_len r s) (by omega))
  have HC := Lib.hid (show cleanB s = joinP (rootedB s) (reduce (rootedB s) (kept (pieces s))) from rfl)
  rw [HC.out]
  rw [show Lib.hasPrefix s.data.toList [47] = rootedB s from rfl] at H1
  generalize rootedB s = r at *
  generalize pieces s = P at *
  cases hf : fit P
  · simp only [hf, Bool.false_and, Bool.false_eq_true, if_false] at H1 ⊢
    clear HC hT hl hcb hk HJL
    go_enter Tryz.func44, Tryz.ntmps44
    go_wp2_with fail
    refine H1.out.mono ?_; rintro e w1 ⟨v, rfl, hm, ho⟩
    obtain ⟨A, c, rfl⟩ := own_ctor ho
    have HM := Lib.hid hm
    clear hm ho
    go_wp2_with fail
    refine bodyPost_ret (v := .tuple #[.string ⟨#[]⟩, .int .i64 51]) (by simp [results, Tryz.results44, go_sem]) rfl ?_
    exact ⟨rfl, HM.out.alloc _⟩
  · simp only [hf, Bool.true_and, if_true] at H1 ⊢
    generalize kept P = L at *
    clear HC hT hl hcb hs hf
    go_enter Tryz.func44, Tryz.ntmps44
    go_wp2_with fail
    refine H1.out.mono ?_; rintro e w0 ⟨v, rfl, hm, ho⟩
    obtain ⟨A, c, rfl⟩ := own_ctor ho
    have HM := Lib.hid hm
    have HO := Lib.hid ho
    clear hm ho H1
    have HW := Lib.hid (heap_alloc_new w0 (.cells #[.bool r, .slice A L.length c] 103))
    have HO1 := Lib.hid (HO.out.alloc (.cells #[.bool r, .slice A L.length c] 103))
    have HM1 := Lib.hid (HM.out.alloc (.cells #[.bool r, .slice A L.length c] 103))
    have hlt0 : w0.heap.size < (w0.alloc (.cells #[.bool r, .slice A L.length c] 103)).heap.size := by simp
    go_wp2_with fail
    generalize w0.alloc (.cells #[.bool r, .slice A L.length c] 103) = w1 at *
    generalize w0.heap.size = b at *
    go_loopw [6, 21] (fun v i wr => RelC r L w1 v i wr) (fun _ i _ => L.length - (intOf i).toNat)
    case atStart => exact ⟨0, by omega, rfl, Mods.refl _ _, World.ownsRow_nil _ _ _ _⟩
    case round =>
      obtain ⟨k, hk, rfl, hml, hol⟩ := hrel
      obtain ⟨AL, cl, rfl⟩ := own_ctor hol
      have HML := Lib.hid hml
      have HOL := Lib.hid hol
      have KL0 := reduce_length r L k
      have hb := hml.heap HW.out (by simp)
      have d0 : wr.cell? ⟨b, 0, none⟩ = some (.bool r) := by rw [cell_of_row _ _ _ _ _ _ hb]; rfl
      have d1 : wr.cell? ⟨b, 1, none⟩ = some (.slice A L.length c) := by rw [cell_of_row _ _ _ _ _ _ hb]; rfl
      have hol2 := ownsRow_mods HO1.out hml (by simp)
      rcases Nat.lt_or_ge k L.length with hlt | hge
      · obtain ⟨p, hp⟩ : ∃ p, L[k]? = some p := ⟨_, List.getElem?_eq_getElem hlt⟩
        have KL : Hid ((reduce r (L.take k)).length ≤ 4294967290) := Lib.hid (by omega)
        obtain ⟨g, rfl⟩ : ∃ g, A = some ⟨g, 0, none⟩ := by
          rcases ownsRow_form hol2 with ⟨e, h1, _⟩ | ⟨g, cap, e, _⟩
          · omega
          · cases e; exact ⟨g, rfl⟩
        have c2 : wr.cell? ⟨g, k, none⟩ = some (.string p) := by
          have := hol2.cells (g := g) rfl k (.string p) (by rw [List.getElem?_map, hp]; rfl)
          rw [Addr.add_lit] at this
          simpa using this
        have KS := Lib.hid (reduce_step r L k p hp)
        clear hml hol hb hol2 KL0
        cases e1 : p.toList == [46, 46]
        · have hq := red_app (r := r) (q := reduce r (L.take k)) e1
          have HQ := Lib.hid (KS.out.trans hq)
          clear hq KS
          go_wp2_with (at_builtin; go_must (refine wpList_app _ rfl _ _ 77 77 rfl w1.heap.size 9 i0 (.string ⟨#[]⟩) 1 16 Tryz.underlying77 hi hz0 hz1 hz2 rfl _ _ _ rfl (HOL.out.alloc _) _ 1 [.string p] rfl ?c1 ?c2 ?c3 ?c4 ?_))
          case c1 => exact src_one Tryz.underlying77 _ _ _ rfl
          case c2 => have := KL.out; unfold maxLen; omega
          case c3 => have := KL.out; omega
          case c4 => have := HML.out.size; simp; omega
          intro v2 w3 hown hgrow hat
          have HG3 := Lib.hid ((HML.out.alloc _).grown hgrow (fun x hx => Or.inr (HOL.out.lt x hx).1))
          obtain ⟨A2, c2, rfl⟩ := own_ctor hown
          have HN := Lib.hid hown
          clear hown hgrow hat
          go_wp2_with fail
          refine ⟨⟨k + 1, by omega, rfl, HG3.out, ?_⟩, by simp only [intOf]; omega⟩
          rw [HQ.out]
          simpa using HN.out
        · obtain ⟨q, hqe⟩ : ∃ q, reduce r (L.take k) = q := ⟨_, rfl⟩
          rw [hqe] at HOL KS KL ⊢
          cases hg : q.getLast? with
          | none =>
            obtain rfl := List.getLast?_eq_none_iff.1 hg
            have HGL : Hid (∀ l, ([] : List ByteArray).getLast? = some l → (l.toList == [46, 46]) = true) := Lib.hid (fun l h => by cases h)
            clear hg hqe
            simp only [List.length_nil] at HOL KL ⊢
            cases r
            · have HQ := Lib.hid (KS.out.trans (red_none (r := false) e1 HGL.out))
              clear KS
              go_wp2_with (at_builtin; go_must (refine wpList_app _ rfl _ _ 77 77 rfl w1.heap.size 9 i0 (.string ⟨#[]⟩) 1 16 Tryz.underlying77 hi hz0 hz1 hz2 rfl _ _ _ rfl (HOL.out.alloc _) _ 1 [.string p] rfl ?c1 ?c2 ?c3 ?c4 ?_))
              case c1 => exact src_one Tryz.underlying77 _ _ _ rfl
              case c2 => have := KL.out; unfold maxLen; omega
              case c3 => have := KL.out; omega
              case c4 => have := HML.out.size; simp; omega
              intro v2 w3 hown hgrow hat
              have HG3 := Lib.hid ((HML.out.alloc _).grown hgrow (fun x hx => Or.inr (HOL.out.lt x hx).1))
              obtain ⟨A2, c2, rfl⟩ := own_ctor hown
              have HN := Lib.hid hown
              clear hown hgrow hat
              go_wp2_with fail
              refine ⟨⟨k + 1, by omega, rfl, HG3.out, ?_⟩, by simp only [intOf]; omega⟩
              rw [HQ.out]
              simpa using HN.out
            · have HQ := Lib.hid (KS.out.trans (red_none (r := true) e1 HGL.out))
              clear KS
              go_wp2_with fail
              refine ⟨⟨k + 1, by omega, rfl, HML.out, ?_⟩, by simp only [intOf]; omega⟩
              rw [HQ.out]
              simpa using HOL.out
          | some l =>
            obtain ⟨q', rfl⟩ := List.getLast?_eq_some_iff.1 hg
            obtain ⟨g2, rfl⟩ : ∃ g, AL = some ⟨g, 0, none⟩ := by
              rcases ownsRow_form HOL.out with ⟨e, h1, _⟩ | ⟨g, cap, e, _⟩
              · simp at h1
              · cases e; exact ⟨g, rfl⟩
            have c3 : wr.cell? ⟨g2, q'.length, none⟩ = some (.string l) := by
              have := HOL.out.cells (g := g2) rfl q'.length (.string l) (by rw [List.getElem?_map]; simp)
              rw [Addr.add_lit] at this
              simpa using this
            have hlc : q'.length + 1 ≤ cl := by
              rcases ownsRow_form HOL.out with ⟨e, _⟩ | ⟨g, cap, e, h1, _⟩
              · cases e
              · cases e; simpa using h1
            have hlen : (q' ++ [l]).length = q'.length + 1 := by simp
            rw [hlen] at HOL KL ⊢
            have hkl := KL.out
            cases e3 : l.toList == [46, 46]
            · have HQ := Lib.hid (KS.out.trans (red_drop e1 hg e3))
              clear KS hg hqe
              generalize hm : q'.length = m at *
              go_wp2_with fail
              refine ⟨⟨k + 1, by omega, rfl, HML.out, ?_⟩, by simp only [intOf]; omega⟩
              rw [HQ.out]
              have hh := ownsRow_cut HOL.out m (by omega)
              simpa [hm] using hh
            · have HGL : Hid (∀ x, (q' ++ [l]).getLast? = some x → (x.toList == [46, 46]) = true) := Lib.hid (fun x h => by rw [hg] at h; cases h; exact e3)
              clear hg hqe
              generalize hm : q'.length = m at *
              cases r
              · have HQ := Lib.hid (KS.out.trans (red_none (r := false) e1 HGL.out))
                clear KS
                go_wp2_with (at_builtin; go_must (refine wpList_app _ rfl _ _ 77 77 rfl w1.heap.size 9 i0 (.string ⟨#[]⟩) 1 16 Tryz.underlying77 hi hz0 hz1 hz2 rfl _ _ _ rfl (HOL.out.alloc _) _ 1 [.string p] rfl ?c1 ?c2 ?c3 ?c4 ?_))
                case c1 => exact src_one Tryz.underlying77 _ _ _ rfl
                case c2 => have := KL.out; unfold maxLen; omega
                case c3 => have := KL.out; omega
                case c4 => have := HML.out.size; simp; omega
                intro v2 w3 hown hgrow hat
                have HG3 := Lib.hid ((HML.out.alloc _).grown hgrow (fun x hx => Or.inr (HOL.out.lt x hx).1))
                obtain ⟨A2, c2, rfl⟩ := own_ctor hown
                have HN := Lib.hid hown
                clear hown hgrow hat
                go_wp2_with fail
                refine ⟨⟨k + 1, by omega, rfl, HG3.out, ?_⟩, by simp only [intOf]; omega⟩
                rw [HQ.out]
                simpa [hm] using HN.out
              · have HQ := Lib.hid (KS.out.trans (red_none (r := true) e1 HGL.out))
                clear KS
                go_wp2_with fail
                refine ⟨⟨k + 1, by omega, rfl, HML.out, ?_⟩, by simp only [intOf]; omega⟩
                rw [HQ.out]
                simpa [hm] using HOL.out
      · obtain rfl : k = L.length := by omega
        rw [List.take_length] at HOL
        clear hml hol hb hol2
        have HJ := Lib.hid (fun w' (hw : Mods [] wr w') => njoin_any r (reduce r L) (.slice AL (reduce r L).length cl) w' (Rd.mods (Rd.of_own HOL.out) hw (by simp)) (by rw [List.take_length] at KL0; omega) (HJL r).out)
        go_wp2_with fail
        refine (HJ.out _ (Mods.refl _ _)).mono ?_
        rintro e w4 ⟨rfl, hb4⟩
        have HB4 := Lib.hid (Mods.below hb4 [])
        clear hb4
        go_wp2_with fail
        refine bodyPost_ret (v := .tuple #[.string (joinP r (reduce r L)), .int .i64 0]) (by simp [results, Tryz.results44, go_sem]) rfl ?_
        exact ⟨rfl, (HM1.out.trans HML.out (by simp)).trans HB4.out (by simp)⟩
end Go.Proofs.YtmcekhgmmocajaaGreatDoor
