/- The walks of lent, kept and raw: bytes are lent to a writer, and looked at behind. -/
import Derived.Test.YtedddekkbgaolaaDoorPn
namespace Go.Proofs.YtedddekkbgaolaaDoor
open Go.RowKit Me

def marks : List UInt8 := [90, 165, 105]
set_option maxRecDepth 100000 in
set_option maxHeartbeats 1000000 in
theorem lent_any {w : World} {vx : Value} (bs : List UInt8) (hx : Rd w vx (bs.map byteV)) (hl : bs.length ≤ 100000000) :
    Calls Tryd.prog 34 #[vx] w (NumPost w.heap.size w (.slice none 0 0) (bs ++ marks)) := by
  have HX := Lib.hid hx
  have H0 : Hid (Grew w.heap.size w (.slice none 0 0) [] (.slice none 0 0) w) := Lib.hid (Grew.refl (World.ownsRow_nil _ _ _ _))
  obtain ⟨A, c, rfl, -⟩ := rd_slice hx
  clear hx
  obtain ⟨i0, hi, hz0, hz1, hz2⟩ := info_parts info5
  go_enter Tryd.func34, Tryd.ntmps34
  go_wp2_with (at_builtin; go_must (refine wpList_app _ rfl _ _ 43 43 rfl w.heap.size 5 i0 (.int .u8 0) 1 1 Tryd.underlying43 hi hz0 hz1 hz2 rfl (.slice none 0 0) 0 [] rfl (World.ownsRow_nil _ _ _ _) _ bs.length (bs.map byteV) rfl ?c1 ?c2 ?c3 ?c4 ?_))
  case c1 =>
    have h := HX.out.src Tryd.underlying43 (bytes_one _)
    rw [List.length_map] at h
    exact h
  case c2 => unfold maxLen; omega
  case c3 => omega
  case c4 => exact Nat.le_refl _
  intro v1 w1 hown hgrow hat
  have hG : Grew w.heap.size w (.slice none 0 0) bs v1 w1 := H0.out.app0 (L := []) (m := bs.length) (news := bs.map byteV) (by simpa using hown) rfl rfl hgrow (by simpa using hat)
  have HG := Lib.hid hG
  obtain ⟨A1, c1, rfl⟩ := own_ctor hown
  have hsz := HG.out.2.1.size
  clear hG hown hgrow hat
  go_wp2_with (at_builtin; go_must (refine wpList_app _ rfl _ _ 43 43 rfl w.heap.size 5 i0 (.int .u8 0) 1 1 Tryd.underlying43 hi hz0 hz1 hz2 rfl _ _ _ rfl (HG.out.1.alloc _) _ 3 [.int .u8 90, .int .u8 165, .int .u8 105] rfl ?d1 ?d2 ?d3 ?d4 ?_))
  case d1 => exact src_lit Tryd.underlying43 w1 [.int .u8 90, .int .u8 165, .int .u8 105] 5 3 rfl (by intro u hu; simp at hu; rcases hu with rfl | rfl | rfl <;> rfl)
  case d2 => unfold maxLen; omega
  case d3 => omega
  case d4 => simp; omega
  intro v2 w2 hown hgrow hat
  have HR := Lib.hid (HG.out.app _ hown (bs := marks) rfl rfl hgrow (by simpa using hat))
  obtain ⟨A2, c2, rfl⟩ := own_ctor hown
  clear hown hgrow hat
  go_wp2_with fail
  go_ret
  exact ⟨_, rfl, HR.out⟩
theorem marked (bs : List UInt8) : (bs ++ marks).length = bs.length + 3 := by simp [marks]
theorem marked_take (bs : List UInt8) : (bs ++ marks).take bs.length = bs := by simp
theorem Rd.pre {w : World} {A : Option Addr} {n c : Nat} {xs : List Value} (h : Rd w (.slice A n c) xs) (k : Nat) (hk : k ≤ xs.length) : Rd w (.slice A k c) (xs.take k) := by
  obtain ⟨A', c', e, h1, h2, h3⟩ := h
  injection e with e0 e1 e2
  subst e0
  subst e2
  refine ⟨A, c, by rw [List.length_take, Nat.min_eq_left hk], by rw [List.length_take]; omega, h2, fun j u hu => h3 j u ?_⟩
  rw [List.getElem?_take] at hu
  split at hu
  · exact hu
  · cases hu
theorem Rd.keep {w w' : World} {v : Value} {xs : List Value} {F : List Nat} (h : Rd w v xs) (hm : Mods F w w') (hn : xs = [] ∨ ∀ k, v.ownBlock = some k → k ∉ F) : Rd w' v xs := by
  rcases hn with rfl | hn
  · obtain ⟨A, c, e, h1, h2, _⟩ := h
    exact ⟨A, c, e, h1, h2, fun j u hu => by simp at hu⟩
  · exact h.mods hm hn
def RelKept (w : World) (g n c : Nat) (i : Value) (wr : World) : Prop :=
  ∃ (k : Nat) (xs : List Value), k ≤ n ∧ i = .int .i64 k ∧ wr.ownsRow 0 5 1 (.slice (some ⟨g, 0, none⟩) n c) n xs ∧ Mods [g] w wr
set_option maxRecDepth 100000 in
set_option maxHeartbeats 1000000 in
theorem kept_any {w : World} {va vb : Value} (bs : List UInt8) (ha : w.ownsRow 0 5 1 va (bs ++ marks).length ((bs ++ marks).map byteV)) (hb : Rd w vb (bs.map byteV)) (hl : bs.length ≤ 100000000) :
    Calls Tryd.prog 36 #[va, vb] w fun e w' => e = .returned (.bool true) ∧ Mods va.ownBlock.toList w w' := by
  have HA := Lib.hid ha
  have HB := Lib.hid hb
  obtain ⟨Ab, cb, rfl, -⟩ := rd_slice hb
  rw [marked] at ha
  rcases ownsRow_form ha with ⟨_, h0, _⟩ | ⟨g, c, rfl, hnc, hcm, hg, _⟩
  · omega
  · have hr := (Rd.of_own ha).pre bs.length (by simp)
    rw [← List.map_take, marked_take] at hr
    have m0 : w.cell? ⟨g, bs.length, none⟩ = some (.int .u8 90) := by
      rw [ha.cellAt bs.length (by omega)]
      simp [marks, byteV]
    have m1 : w.cell? ⟨g, bs.length + 1, none⟩ = some (.int .u8 165) := by
      rw [ha.cellAt (bs.length + 1) (by omega)]
      simp [marks, byteV]
    have m2 : w.cell? ⟨g, bs.length + 2, none⟩ = some (.int .u8 105) := by
      rw [ha.cellAt (bs.length + 2) (by omega)]
      simp [marks, byteV]
    have HR := Lib.hid hr
    have HA2 := Lib.hid ha
    clear ha hb hr
    go_enter Tryd.func36, Tryd.ntmps36
    go_wp2_with fail
    refine (same_any bs bs HR.out HB.out (by unfold maxLen; omega) (by unfold maxLen; omega)).mono ?_; rintro e w1 ⟨rfl, k1, rfl⟩
    rw [decide_eq_true (rfl : bs = bs)]
    have n0 : (w.drewN k1).cell? ⟨g, bs.length, none⟩ = some (.int .u8 90) := m0
    have n1 : (w.drewN k1).cell? ⟨g, bs.length + 1, none⟩ = some (.int .u8 165) := m1
    have n2 : (w.drewN k1).cell? ⟨g, bs.length + 2, none⟩ = some (.int .u8 105) := m2
    have HM1 : Hid (Mods [g] w (w.drewN k1)) := Lib.hid ((Mods.refl _ _).drewN k1)
    have HA3 : Hid ((w.drewN k1).ownsRow 0 5 1 (.slice (some ⟨g, 0, none⟩) (bs.length + 3) c) (bs.length + 3) ((bs ++ marks).map byteV)) := Lib.hid (ownsRow_mods HA2.out ((Mods.refl [] w).drewN k1) (by simp))
    clear m0 m1 m2
    generalize w.drewN k1 = w1 at *
    go_wp2_with fail
    go_loopw [7] (fun i wr => RelKept w g (bs.length + 3) c i wr) (fun i _ => bs.length + 3 - (intOf i).toNat)
    case atStart => exact ⟨0, _, by omega, rfl, HA3.out, HM1.out⟩
    case round =>
      obtain ⟨k, xs, hk, rfl, ho, hm⟩ := hrel
      have HO := Lib.hid ho
      have HM := Lib.hid hm
      rcases Nat.lt_or_ge k (bs.length + 3) with hlt | hge
      · obtain ⟨x, hx⟩ : ∃ x, wr.cell? ⟨g, k, none⟩ = some x := by
          have hxl : k < xs.length := by have := ho.1; omega
          exact ⟨xs[k], by rw [ho.cellAt k (by omega)]; simp [hxl]⟩
        have hfz := ho.frozenAt k
        clear ho hm n0 n1 n2
        go_wp2_with fail
        exact ⟨⟨k + 1, _, by omega, rfl, (HO.out.stored k (.int .u8 238)).1, HM.out.setCell (p := ⟨g, k, none⟩) (Or.inl (by simp)) _⟩, by simp only [intOf]; omega⟩
      · obtain rfl : k = bs.length + 3 := by omega
        clear ho hm n0 n1 n2
        go_wp2_with fail
        go_ret
        exact ⟨rfl, HM.out⟩
set_option maxRecDepth 100000 in
set_option maxHeartbeats 1000000 in
/-- Bytes are written to both; they stay. -/
theorem raw2_any {w : World} {a c : Nat} {S V : WSt} {F : List Nat} (h : (W2 a c S V).A w F) {vb : Value} (bs : List UInt8) (hb : ∀ w', Mods F w w' → Rd w' vb (bs.map byteV)) (hl : bs.length ≤ 100000000) :
    Calls Tryd.prog 79 #[.pointer (some ⟨a, 0, none⟩), .pointer (some ⟨c, 0, none⟩), vb] w fun e w' => e = .returned (.bool true) ∧ Post (W2 a c (S.put bs) (V.put bs)) w F w' := by
  have H0 := Lib.hid (Post.start h)
  have HB := Lib.hid hb
  obtain ⟨A, cb, rfl, -⟩ := rd_slice (hb w (Mods.refl _ _))
  clear h hb
  go_enter Tryd.func79, Tryd.ntmps79
  go_wp2_with fail
  refine (lent_any bs (HB.out w (Mods.refl _ _)) hl).mono ?_; rintro e w1 ⟨v, rfl, ho, hm, -⟩
  have ho0 := ownsRow_base ho (Nat.zero_le _)
  have hm0 : Mods [] w w1 := by simpa [Value.ownBlock] using hm
  have hp1 := H0.out.add (q := Pc.row 5 1 v (bs ++ marks).length ((bs ++ marks).map byteV)) hm0 ⟨ho0, rfl⟩ (fun k hk => (ho.lt k (by simpa using hk)).1)
  have H1 := Lib.hid (hp1.ent (ent_box _ _ _))
  have HB1 := Lib.hid (HB.out w1 (hm0.mono (by simp)))
  rw [marked] at ho0
  rcases ownsRow_form ho0 with ⟨_, h0, _⟩ | ⟨g, cap, rfl, hnc, hcm, hg, _⟩
  · omega
  have hr := (Rd.of_own ho0).pre bs.length (by simp)
  rw [← List.map_take, marked_take] at hr
  have HR := Lib.hid hr
  clear ho ho0 hm hm0 hp1 hr
  go_wp2_with fail
  refine (H1.out.wr fun vb vo hi => raw_any hi bs HR.out).mono ?_; rintro e w2 ⟨rfl, hp⟩
  have H2 := Lib.hid (hp.ent (Pc.Ent.swap _ _ _))
  have HB2 := Lib.hid (HB.out _ hp.mods)
  clear hp
  go_wp2_with fail
  refine (H2.out.wr fun vb vo hi => vraw_any hi bs HB2.out).mono ?_; rintro e w3 ⟨rfl, hp⟩
  have H3 := Lib.hid (hp.ent ((Pc.Ent.swap _ _ _).trans (Pc.Ent.assoc' _ _ _)))
  have HB3 := Lib.hid (HB.out _ hp.mods)
  have H3r := Lib.hid (H3.out.ent (Pc.Ent.comm _ _))
  clear hp
  go_wp2_with fail
  refine (H3r.out.call (q := Pc.emp) (x := .bool true) fun F1 hF => (kept_any bs (by rw [marked] at hF ⊢; exact hF.1) HB3.out hl).mono fun e w' hh => ⟨hh.1, [], rfl, by rw [hF.2]; exact hh.2, by simp⟩).mono ?_; rintro e w4 ⟨rfl, hp⟩
  have H4 := Lib.hid (hp.ent (Pc.Ent.right _ _))
  clear hp
  go_wp2_with fail
  go_ret
  exact ⟨rfl, H4.out⟩
end Go.Proofs.YtedddekkbgaolaaDoor
