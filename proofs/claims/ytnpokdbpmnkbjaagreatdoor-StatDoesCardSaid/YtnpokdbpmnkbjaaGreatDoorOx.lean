/- The Book's same. -/
import Derived.Test.YtnpokdbpmnkbjaaGreatDoorOw
import Derived.Deep.CutBlock
import Derived.Deep.CutRange
namespace Go.Proofs.YtnpokdbpmnkbjaaGreatDoor
open Go.RowKit Me

set_option maxRecDepth 100000 in
set_option maxHeartbeats 2000000 in
theorem alike_quiet {w : World} (L : List StatP) {v u : Value} (h1 : Sts w v L) (h2 : Sts w u L) (hl : L.length ≤ 2000000000) :
    Calls Tryz.prog 37 #[v, u] w fun e w' => e = .returned (.bool true) ∧ ∃ q, w.drewN q = w' := by
  have H1 := Lib.hid h1
  have H2 := Lib.hid h2
  obtain ⟨A, c, rfl, -⟩ := h1
  obtain ⟨B, d, rfl, -⟩ := h2
  go_enter Tryz.func37, Tryz.ntmps37
  go_wp2_with fail
  go_loopw [5] (fun i wr => RelAl w L i wr) (fun i _ => L.length - (intOf i).toNat)
  case atStart => exact ⟨0, 0, by omega, rfl, rfl⟩
  case round =>
    obtain ⟨k, q, hk, rfl, rfl⟩ := hrel
    rcases Nat.lt_or_ge k L.length with hlt | hge
    · obtain ⟨s, hs⟩ : ∃ s, L[k]? = some s := ⟨_, List.getElem?_eq_getElem hlt⟩
      obtain ⟨g, off, rfl, hrg⟩ := H1.out.at hs
      obtain ⟨g2, off2, rfl, hrg2⟩ := H2.out.at hs
      obtain ⟨a0, a1, a2, a3, a4, a5, a6, a7, a8, a9, a10, a11, a12⟩ := range_stat hrg
      obtain ⟨b0, b1, b2, b3, b4, b5, b6, b7, b8, b9, b10, b11, b12⟩ := range_stat hrg2
      clear hrg hrg2 hs
      go_wp2_with fail
      go_quiet (fail)
      go_wp2_with fail
      exact ⟨⟨k + 1, _, by omega, rfl, rfl⟩, by simp only [intOf]; omega⟩
    · obtain rfl : k = L.length := by omega
      go_wp2_with fail
      go_ret
      exact ⟨rfl, q, rfl⟩
def RelSa (p : Pc) (w0 : World) (F : List Nat) (N : Nat) (i : Value) (wr : World) : Prop := ∃ k : Nat, k ≤ N ∧ i = .int .i64 (k : Int) ∧ Post p w0 F wr
structure OwOk (I : List It) (J : List Is) (B : Nat) : Prop where
  i : I.length ≤ 1000000000
  j : J.length ≤ 1000000000
  bi : ∀ x ∈ I, x.bs.length ≤ B
  bj : ∀ x ∈ J, x.L.length ≤ B
set_option maxRecDepth 100000 in
set_option maxHeartbeats 4000000 in
theorem ksame_any {w0 w : World} {F : List Nat} {b : Nat} {vb vc vs vt : Value} {I : List It} {J : List Is} {R : Pc} (h : Post (Ow b vb vc vs vt I J R) w0 F w) (hok : OwOk I J 2000000000) :
    Calls Tryz.prog 19 #[.pointer (some ⟨b, 0, none⟩)] w fun e w' => e = .returned (.bool true) ∧ Post (Ow b vb vc vs vt I J R) w0 F w' := by
  have H0 := Lib.hid h
  have HOK := Lib.hid hok
  have hil := hok.i
  have hjl := hok.j
  obtain ⟨hb, h1, h2, h3, h4⟩ := ow_cells h
  obtain ⟨Ab, cb, rfl⟩ := own_ctor h1
  obtain ⟨Ac, cc, rfl⟩ := own_ctor h2
  obtain ⟨As, cs, rfl⟩ := own_ctor h3
  obtain ⟨At, ct, rfl⟩ := own_ctor h4
  clear h hok hb h1 h2 h3 h4
  go_enter Tryz.func19, Tryz.ntmps19
  go_wp2_with fail
  go_loopw [3] (fun i wr => RelSa (Ow b (.slice Ab I.length cb) (.slice Ac I.length cc) (.slice As J.length cs) (.slice At J.length ct) I J R) w0 F I.length i wr) (fun i _ => I.length - (intOf i).toNat)
  case atStart => exact ⟨0, by omega, rfl, H0.out⟩
  case round =>
    obtain ⟨k, hk, rfl, hp⟩ := hrel
    have HP := Lib.hid hp
    obtain ⟨hb, h1, h2, -, -⟩ := ow_cells hp
    obtain ⟨c0, c1, c2, c3, -, -, -, -⟩ := bcell4 hb
    rcases Nat.lt_or_ge k I.length with hlt | hge
    · obtain ⟨x, hx⟩ : ∃ x, I[k]? = some x := ⟨_, List.getElem?_eq_getElem hlt⟩
      obtain ⟨-, -, -, r1, r2⟩ := owB_cells (hp.ent (ow_openB hx))
      obtain ⟨g1, q1, e1, d1, -⟩ := row_cell h1 (i := k) (x := x.v) (by rw [List.getElem?_map, hx]; rfl)
      obtain ⟨g2, q2, e2, d2, -⟩ := row_cell h2 (i := k) (x := x.u) (by rw [List.getElem?_map, hx]; rfl)
      injection e1 with e1 _ e1c
      injection e2 with e2 _ e2c
      subst e1
      subst e1c
      subst e2
      subst e2c
      have hcv := fun n => conv_rd ((Rd.of_own r1).mods ((Mods.refl [] wr).drewN n) (by simp))
      have hcu := fun n => conv_rd ((Rd.of_own r2).mods ((Mods.refl [] wr).drewN n) (by simp))
      obtain ⟨xv, xu, bs⟩ := x
      simp only at r1 r2 d1 d2 hcv hcu
      obtain ⟨Av, cv, rfl⟩ := own_ctor r1
      obtain ⟨Au, cu, rfl⟩ := own_ctor r2
      clear hp hb h1 h2 hx r1 r2
      go_wp2_with fail
      go_quiet (fail)
      have HR := Lib.hid (HP.out.still ((Mods.refl [] wr).drewN nq))
      clear c0 c1 c2 c3 d1 d2 hcv hcu
      go_wp2_with fail
      exact ⟨⟨k + 1, by omega, rfl, HR.out⟩, by simp only [intOf]; omega⟩
    · obtain rfl : k = I.length := by omega
      clear hp hb h1 h2
      go_wp2_with fail
      clear c0 c1 c2 c3
      go_loopw [4, 5] (fun i _ wr => RelSa (Ow b (.slice Ab I.length cb) (.slice Ac I.length cc) (.slice As J.length cs) (.slice At J.length ct) I J R) w0 F J.length i wr) (fun i _ _ => J.length - (intOf i).toNat)
      case atStart => exact ⟨0, by omega, rfl, HP.out⟩
      case round =>
        obtain ⟨k, hk, rfl, hp⟩ := hrel
        have HP := Lib.hid hp
        obtain ⟨hb, -, -, h1, h2⟩ := ow_cells hp
        obtain ⟨c0, c1, c2, c3, -, -, -, -⟩ := bcell4 hb
        rcases Nat.lt_or_ge k J.length with hlt | hge
        · obtain ⟨x, hx⟩ : ∃ x, J[k]? = some x := ⟨_, List.getElem?_eq_getElem hlt⟩
          obtain ⟨-, -, -, r1, r2⟩ := owS_cells (hp.ent (ow_openS hx))
          obtain ⟨g1, q1, e1, d1, -⟩ := row_cell h1 (i := k) (x := x.v) (by rw [List.getElem?_map, hx]; rfl)
          obtain ⟨g2, q2, e2, d2, -⟩ := row_cell h2 (i := k) (x := x.u) (by rw [List.getElem?_map, hx]; rfl)
          injection e1 with e1 _ e1c
          injection e2 with e2 _ e2c
          subst e1
          subst e1c
          subst e2
          subst e2c
          have hxb := HOK.out.bj x (List.mem_of_getElem? hx)
          have hs : ∀ n, Calls Tryz.prog 37 #[x.v, x.u] (wr.drewN n) fun e w'' => e = .returned (.bool true) ∧ ∃ m, w'' = wr.drewN m := fun n => by
            refine (alike_quiet x.L ((Sts.of_own r1 rfl).mods ((Mods.refl [] _).drewN n)) ((Sts.of_own r2 rfl).mods ((Mods.refl [] _).drewN n)) hxb).mono ?_
            rintro e w' ⟨he, q, rfl⟩
            exact ⟨he, n + q, by rw [World.drewN_drewN]⟩
          have HS := Lib.hid hs
          obtain ⟨xv, xu, L⟩ := x
          simp only at r1 r2 d1 d2 HS
          obtain ⟨Av, cv, rfl⟩ := own_ctor r1
          obtain ⟨Au, cu, rfl⟩ := own_ctor r2
          clear hp hb h1 h2 hx r1 r2 hs hxb
          go_wp2_with fail
          go_quiet (exact HS.out _)
          have HR := Lib.hid (HP.out.still ((Mods.refl [] wr).drewN nq))
          clear c0 c1 c2 c3 d1 d2
          go_wp2_with fail
          exact ⟨⟨k + 1, by omega, rfl, HR.out⟩, by simp only [intOf]; omega⟩
        · obtain rfl : k = J.length := by omega
          clear hp hb h1 h2
          go_wp2_with fail
          go_ret
          exact ⟨rfl, HP.out⟩
end Go.Proofs.YtnpokdbpmnkbjaaGreatDoor
