/- again: bytes are read by a row of steps. -/
import Derived.Test.YtedddekkbgaolaaDoorSd
import Derived.Test.YtedddekkbgaolaaDoorPb
namespace Go.Proofs.YtedddekkbgaolaaDoor
open Go.RowKit Me

theorem info61 : (Tryd.prog.info? 61).map (fun i => (i.zero, i.size, i.bytes)) = some (some (.pointer none), 1, 8) := by kernel_rfl
theorem info48 : (Tryd.prog.info? 48).map (·.size) = some 6 := by kernel_rfl
section
variable {N : Nat} {o : OpP} {l : List OpP} {r : RSt} {out : List RSt}
theorem okay_open (h : Okay N (o :: l) r out) (h7 : o.kind = 7) : Okay N l r.part.1 (r.part.2 :: out) := by
  unfold Okay at h
  rwa [if_pos h7] at h
theorem okay_shut (h : Okay N (o :: l) r out) (h8 : o.kind = 8) : r.fin.err = 0 ∧ ∃ q tl, out = q :: tl ∧ Okay N l q tl := by
  unfold Okay at h
  rw [if_neg (by omega), if_pos h8] at h
  refine ⟨h.1, ?_⟩
  cases out with
  | nil => exact h.2.elim
  | cons q tl => exact ⟨q, tl, rfl, h.2⟩
theorem okay_leaf (h : Okay N (o :: l) r out) (h7 : o.kind ≠ 7) (h8 : o.kind ≠ 8) : (r.finds o).1 = true ∧ Okay N l (r.finds o).2 out := by
  unfold Okay at h
  rwa [if_neg h7, if_neg h8] at h
theorem okay_nil (h : Okay N [] r out) : out = [] ∧ r.err = 0 ∧ r.place = r.bytes.length ∧ r.base + r.place = N := h
end
theorem raw_len (S : RSt) (n : Nat) : (S.raw n).1.length ≤ n := by
  unfold RSt.raw
  repeat' split
  all_goals simp
  all_goals omega
theorem rd_apart {w : World} {v : Value} {l : List UInt8} (h : Rd w v (l.map byteV)) {a : Nat} (ha : w.heap.size ≤ a) : l = [] ∨ v.ownBlock ≠ some a := by
  cases l with
  | nil => exact Or.inl rfl
  | cons x l =>
    refine Or.inr fun e => ?_
    obtain ⟨A, c, rfl, _, _, h3⟩ := h
    obtain ⟨g, off, rfl, hc⟩ := h3 0 (byteV x) rfl
    have := World.block_lt_of_cell? w _ hc
    simp [Value.ownBlock] at e
    simp at this
    omega
def RelAgain (B N : Nat) (w : World) (L : List (OpP × Value)) (r out i : Value) (wr : World) : Prop :=
  ∃ (k : Nat) (x : RB) (tl : List RB), k ≤ L.length ∧ i = .int .i64 k ∧ r = x.p ∧ Stand w.heap.size B wr (x :: tl) ∧ wr.ownsRow B 61 1 out tl.length (tl.map RB.p).reverse ∧ Mods [] w wr ∧ B ≤ wr.heap.size ∧
    tl.length ≤ k ∧ Okay N ((L.map Prod.fst).drop k) x.R (tl.map RB.R)
theorem Stand.grown {lo B : Nat} {w w' : World} {L : List RB} {out : Value} {n : Nat} {xs : List Value} (h : Stand lo B w L) (ho : w.ownsRow B 61 1 out n xs) (hm : Mods out.ownBlock.toList w w') : Stand lo B w' L := by
  refine h.mods hm (fun x hx hm => ?_) (fun k hk => ?_)
  · simp at hm
    exact ownsRow_not ho (h.is x hx).cells (by decide) hm
  · simp at hk
    exact (ho.lt k hk).1
set_option maxRecDepth 100000 in
set_option maxHeartbeats 1000000 in
theorem again_any {w : World} (hT : Lib.Utf8Tabs 0 1 w) (b : List UInt8) {vb vl : Value} (hb : Rd w vb (b.map byteV)) (hbl : b.length ≤ 60000) (L : List (OpP × Value)) (hL : Ops w vl L) (hll : L.length ≤ 200000) (hI : ∀ p ∈ L, OpIn w p)
    (hok : Okay b.length (L.map Prod.fst) (RSt.new b) []) :
    Calls Tryd.prog 45 #[vb, vl] w fun e w' => e = .returned (.bool true) ∧ Mods [] w w' := by
  have HT := Lib.hid hT
  have HB := Lib.hid hb
  have HL := Lib.hid hL
  have HI := Lib.hid hI
  have HOK := Lib.hid hok
  obtain ⟨A, c, rfl, -⟩ := rd_slice hb
  obtain ⟨Al, cl, rfl, -⟩ := hL
  obtain ⟨i0, hi, hz0, hz1, hz2⟩ := info_parts info61
  have hi0 := info_parts info61
  clear hT hb hI hok
  go_enter Tryd.func45, Tryd.ntmps45
  go_wp2_with fail
  refine (newReader_any b HB.out (by omega)).mono ?_; rintro e w1 ⟨a, v, rfl, hr, ho, ha, hm⟩
  have HM1 := Lib.hid hm
  have HS := Lib.hid (Stand.one (lo := w.heap.size) (B := w1.heap.size) hr ha (fun k hk => (ho.lt k hk).2))
  clear hr ho ha hm
  go_wp2_with fail
  go_loopw [5, 6, 7] (fun r out i wr => RelAgain w1.heap.size b.length w L r out i wr) (fun _ _ i _ => L.length - (intOf i).toNat)
  case atStart => exact ⟨0, _, [], by omega, rfl, rfl, HS.out, World.ownsRow_nil _ _ _ _, HM1.out, Nat.le_refl _, by simp, HOK.out⟩
  case round =>
    obtain ⟨k, x, tl, hk, rfl, rfl, hs, ho, hm, hB, htl, hok⟩ := hrel
    obtain ⟨a, R, v⟩ := x
    have HS := Lib.hid hs
    have HO := Lib.hid ho
    have HM := Lib.hid hm
    have HK := Lib.hid hok
    obtain ⟨Ao, co, rfl⟩ := own_ctor ho
    clear hs ho hm hok
    simp only [RB.p] at *
    rcases Nat.lt_or_ge k L.length with hlt | hge
    · obtain ⟨⟨o, vo⟩, hp⟩ : ∃ p, L[k]? = some p := ⟨_, List.getElem?_eq_getElem hlt⟩
      obtain ⟨g, off, rfl, hrg⟩ := (HL.out.mods HM.out).at k (o, vo) hp
      have hkind : wr.cell? ⟨g, off + k * 6 + 1, none⟩ = some (.int .i64 o.kind) := hrg 1 _ rfl
      have hin := (HI.out (o, vo) (List.mem_of_getElem? hp)).mods HM.out
      have HIN := Lib.hid hin
      have HRG := Lib.hid hrg
      have hdrop : (L.map Prod.fst).drop k = o :: (L.map Prod.fst).drop (k + 1) := by
        rw [List.drop_eq_getElem_cons (by simpa using hlt)]
        congr 1
        have := (List.getElem?_eq_some_iff.1 hp).2
        simp [this]
      have hok := HK.out
      rw [hdrop] at hok
      have hmem := List.mem_of_getElem? hp
      clear hdrop hp hrg hin
      by_cases h7 : o.kind = 7
      · have HK7 := Lib.hid (okay_open hok h7)
        rw [h7] at hkind
        clear hok h7
        go_wp2_with (at_builtin; go_must (refine wpList_app _ rfl _ _ 56 56 rfl w1.heap.size 61 i0 (.pointer none) 1 8 Tryd.underlying56 hi hz0 hz1 hz2 rfl _ _ _ rfl (HO.out.alloc _) _ 1 [.pointer (some ⟨a, 0, none⟩)] rfl ?c1 ?c2 ?c3 ?c4 ?_))
        case c1 => exact src_one Tryd.underlying56 _ _ _ rfl
        case c2 => unfold maxLen; omega
        case c3 => omega
        case c4 => first | omega | exact Nat.le_trans hB (by simp) | (simp; omega)
        intro v2 w2 hown hgrow hat
        obtain ⟨A2, c2, rfl⟩ := own_ctor hown
        have hm2 : Mods (Value.slice Ao tl.length co).ownBlock.toList wr w2 := ((Mods.refl _ _).alloc _).grown hgrow (fun b hb => Or.inl (by rw [hb]; simp))
        have hS2 := HS.out.grown HO.out hm2
        have HS2 := Lib.hid hS2
        have HB2 := Lib.hid (Nat.le_trans hB hm2.size)
        have HM2 := Lib.hid (HM.out.trans hm2 (fun b hb => Or.inr (by have := HM1.out.size; have := (HO.out.lt b (by simpa using hb)).1; omega)))
        have HO2 := Lib.hid hown
        have HP := Lib.hid (rpart_any hS2.head)
        clear hown hgrow hat hm2 hS2 hkind
        go_wp2_with fail
        refine HP.out.mono ?_; rintro e w3 hpp
        obtain ⟨q, vq, rfl, hq, hm3, hs3⟩ := HS2.out.part (by have := HM2.out.size; omega) HB2.out hpp
        have HO3 := Lib.hid (ownsRow_mods HO2.out hm3 (fun k hk => by
          have := ownsRow_not HO2.out (HS2.out.head).cells (by decide)
          simp
          intro e
          rw [e] at hk
          exact this hk))
        have hR : RelAgain w1.heap.size b.length w L (.pointer (some ⟨q, 0, none⟩)) (.slice A2 (tl.length + 1) c2) (.int .i64 ((k : Int) + 1)) w3 := by
          refine ⟨k + 1, ⟨q, _, vq⟩, ⟨a, _, v⟩ :: tl, by omega, rfl, rfl, hs3, ?_, HM2.out.trans hm3 (fun b hb => Or.inr (by simp at hb; subst hb; exact HS2.out.lo _ (List.mem_cons_self))), by have := HB2.out; have := hm3.size; omega, by simp; omega, HK7.out⟩
          simpa [RB.p] using HO3.out
        have HR := Lib.hid hR
        clear hR hpp hm3 hs3 hq
        go_wp2_with fail
        exact ⟨HR.out, by simp only [intOf]; omega⟩
      · by_cases h8 : o.kind = 8
        · obtain ⟨hfin, q8, tl8, htl8, hok8⟩ := okay_shut hok h8
          obtain ⟨y, tl, rfl⟩ : ∃ y t, tl = y :: t := by
            cases tl with
            | nil => simp at htl8
            | cons y t => exact ⟨y, t, rfl⟩
          simp only [List.map_cons, List.cons.injEq] at htl8
          obtain ⟨rfl, rfl⟩ := htl8
          have HK8 := Lib.hid hok8
          rw [h8] at hkind
          have ho := HO.out
          simp only [List.map_cons, List.reverse_cons, List.length_cons] at ho
          obtain ⟨go, rfl⟩ : ∃ go, Ao = some ⟨go, 0, none⟩ := by
            rcases ownsRow_form ho with ⟨h1, _⟩ | ⟨g', c', h1, _⟩
            · injection h1 with _ h1 _
              omega
            · injection h1 with h1 _ _
              exact ⟨g', h1⟩
          have htop : wr.cell? ⟨go, tl.length, none⟩ = some (.pointer (some ⟨y.a, 0, none⟩)) := by
            have := ho.cells rfl tl.length y.p (by simp)
            simpa [Addr.add_lit, RB.p] using this
          have hco : tl.length ≤ co := by
            obtain ⟨_, _, e, h1, _⟩ := ownsRow_slice ho
            injection e with _ e2 e3
            omega
          have hcut := ownsRow_cut ho tl.length (by omega)
          have hcut2 : wr.ownsRow w1.heap.size 61 1 (.slice (some ⟨go, 0, none⟩) tl.length co) tl.length (tl.map RB.p).reverse := by
            have e : ((tl.map RB.p).reverse ++ [y.p]).take tl.length = (tl.map RB.p).reverse := by
              rw [List.take_left' (by simp)]
            rwa [e] at hcut
          have HC := Lib.hid hcut2
          have HE := Lib.hid (end_any HS.out.head)
          have HF := Lib.hid hfin
          simp only [List.length_cons] at *
          clear hok hok8 h7 h8 ho hcut hcut2 hfin
          go_wp2_with fail
          refine HE.out.mono ?_; rintro e w2 ⟨rfl, hr2⟩
          have hs2 := HS.out.next hr2
          have HS2 := Lib.hid hs2
          have HM2 := Lib.hid (HM.out.trans hr2.2 (fun b hb => Or.inr (by simp at hb; subst hb; exact HS.out.lo _ (List.mem_cons_self))))
          have hga : go ≠ a := by
            have := ownsRow_not HO.out HS.out.head.cells (by decide)
            intro e
            apply this
            rw [← e]
            rfl
          have HC2 := Lib.hid (ownsRow_mods HC.out hr2.2 (fun k hk => by
            simp [Value.ownBlock] at hk
            subst hk
            simpa using hga))
          have htop2 : w2.cell? ⟨go, tl.length, none⟩ = some (.pointer (some ⟨y.a, 0, none⟩)) := by
            rw [hr2.2.cell (p := ⟨go, tl.length, none⟩) (World.block_lt_of_cell? _ _ htop) (by simpa using hga)]
            exact htop
          have hB2 := Nat.le_trans hB hr2.2.size
          have HER := Lib.hid (err_any hs2.head)
          clear hr2 hs2 htop hkind
          go_wp2_with fail
          refine HER.out.mono ?_; rintro e w3 ⟨rfl, kk, rfl⟩
          simp only [HF.out]
          have htop3 : (w2.drewN kk).cell? ⟨go, tl.length, none⟩ = some (.pointer (some ⟨y.a, 0, none⟩)) := htop2
          have HR : Hid (RelAgain w1.heap.size b.length w L (.pointer (some ⟨y.a, 0, none⟩)) (.slice (some ⟨go, 0, none⟩) tl.length co) (.int .i64 ((k : Int) + 1)) (w2.drewN kk)) :=
            Lib.hid ⟨k + 1, y, tl, by omega, rfl, rfl, (HS2.out.tail).still ((Mods.refl _ _).drewN kk), ownsRow_mods HC2.out ((Mods.refl [] _).drewN kk) (by simp), HM2.out.drewN kk, hB2, by omega, HK8.out⟩
          go_wp2_with fail
          exact ⟨HR.out, by simp only [intOf]; omega⟩
        · obtain ⟨hf1, hf2⟩ := okay_leaf hok h7 h8
          have e7 : (o.kind == 7) = false := by simpa using h7
          have e8 : (o.kind == 8) = false := by simpa using h8
          have HK9 := Lib.hid hf2
          have HF1 := Lib.hid hf1
          have hrl : (R.raw o.b.length).1.length ≤ maxLen := by
            have h1 : o.b.length ≤ 140737488355328 := HIN.out.1.b
            have h2 := raw_len R o.b.length
            unfold maxLen
            omega
          have hvo : o.b = [] ∨ vo.ownBlock ≠ some a := rd_apart (HI.out (o, vo) hmem).2 (HS.out.lo _ (List.mem_cons_self))
          have HF := Lib.hid (finds_any (tabs_mods HM.out HT.out) HS.out.head o HIN.out.1 HIN.out.2 hvo hrl)
          clear hok hf1 hf2 h7 h8 hrl hvo hmem
          generalize hRF : R.finds o = RF at *
          have HRF := Lib.hid hRF
          clear hRF
          go_wp2_with (first | (refine wpList_load_mid rfl 48 _ rfl g (off + k * 6) rfl (opC o vo) _ HRG.out Tryd.underlying48 rfl info48 ?_))
          refine HF.out.mono ?_; rintro e w2 ⟨rfl, hr2⟩
          rw [HF1.out]
          have HR : Hid (RelAgain w1.heap.size b.length w L (.pointer (some ⟨a, 0, none⟩)) (.slice Ao tl.length co) (.int .i64 ((k : Int) + 1)) w2) := by
            refine Lib.hid ⟨k + 1, ⟨a, RF.2, v⟩, tl, by omega, rfl, rfl, HS.out.next hr2, ?_, HM.out.trans hr2.2 (fun b hb => Or.inr (by simp at hb; subst hb; exact HS.out.lo _ (List.mem_cons_self))), Nat.le_trans hB hr2.2.size, by omega, HK9.out⟩
            exact ownsRow_mods HO.out hr2.2 (fun k hk => by
              have := ownsRow_not HO.out HS.out.head.cells (by decide)
              simp
              intro e
              rw [e] at hk
              exact this hk)
          clear hr2
          go_wp2_with fail
          exact ⟨HR.out, by simp only [intOf]; omega⟩
    · obtain rfl : k = L.length := by omega
      have hok := HK.out
      rw [List.drop_eq_nil_of_le (by simp)] at hok
      obtain ⟨h1, h2, h3, h4⟩ := okay_nil hok
      have htl0 : tl = [] := by cases tl with | nil => rfl | cons y t => simp at h1
      subst htl0
      have hfe : R.fin = R := by unfold RSt.fin; rw [if_neg (by omega)]
      have HE := Lib.hid (end_any HS.out.head)
      rw [hfe] at HE
      have HER := Lib.hid h2
      have hleft : R.left = 0 := by unfold RSt.left; rw [if_neg (by omega)]; omega
      have HLE := Lib.hid hleft
      have HAT := Lib.hid h4
      clear hok h1 h2 h3 h4 hfe hleft
      simp only [List.length_nil] at *
      go_wp2_with fail
      refine HE.out.mono ?_; rintro e w2 ⟨rfl, hr2⟩
      have HM2 := Lib.hid (HM.out.trans hr2.2 (fun b hb => Or.inr (by simp at hb; subst hb; exact HS.out.lo _ (List.mem_cons_self))))
      have HR2 := Lib.hid hr2.1
      have HERR := Lib.hid (err_any hr2.1)
      clear hr2
      go_wp2_with fail
      refine HERR.out.mono ?_; rintro e w3 ⟨rfl, k3, rfl⟩
      rw [HER.out]
      have HR3 := Lib.hid (HR2.out.drewN k3)
      have HM3 := Lib.hid (HM2.out.drewN k3)
      generalize w2.drewN k3 = w3 at *
      go_wp2_with fail
      refine (left_any HR3.out).mono ?_; rintro e w4 ⟨rfl, k4, rfl⟩
      rw [HLE.out]
      have HR4 := Lib.hid (HR3.out.drewN k4)
      have HM4 := Lib.hid (HM3.out.drewN k4)
      generalize w3.drewN k4 = w4 at *
      go_wp2_with fail
      refine (at_any HR4.out).mono ?_; rintro e w5 ⟨rfl, k5, rfl⟩
      rw [HAT.out]
      have HM5 := Lib.hid (HM4.out.drewN k5)
      generalize w4.drewN k5 = w5 at *
      go_wp2_with fail
      go_ret
      exact ⟨rfl, HM5.out⟩
end Go.Proofs.YtedddekkbgaolaaDoor
