/- The Book's own. -/
import Derived.Test.YtnpokdbpmnkbjaaGreatDoorOx
import Derived.Deep.RegionLaw
namespace Go.Proofs.YtnpokdbpmnkbjaaGreatDoor
open Go.RowKit Me

structure IOk (N B : Nat) (I : List It) : Prop where
  len : I.length = N
  bs : ∀ x ∈ I, x.bs.length ≤ B
structure JOk (N B : Nat) (J : List Is) : Prop where
  len : J.length = N
  bs : ∀ x ∈ J, x.L.length ≤ B
theorem IOk.set {N B : Nat} {I : List It} (h : IOk N B I) (i : Nat) {x : It} (hx : x.bs.length ≤ B) : IOk N B (I.set i x) :=
  ⟨by rw [List.length_set]; exact h.len, fun y hy => by rcases List.mem_or_eq_of_mem_set hy with hy | rfl; exact h.bs y hy; exact hx⟩
theorem JOk.set {N B : Nat} {J : List Is} (h : JOk N B J) (i : Nat) {x : Is} (hx : x.L.length ≤ B) : JOk N B (J.set i x) :=
  ⟨by rw [List.length_set]; exact h.len, fun y hy => by rcases List.mem_or_eq_of_mem_set hy with hy | rfl; exact h.bs y hy; exact hx⟩
def RelA (b : Nat) (vb vc vs vt : Value) (J : List Is) (R : Pc) (w0 : World) (F : List Nat) (N B : Nat) (i : Value) (wr : World) : Prop :=
  ∃ (k : Nat) (I : List It), k ≤ N ∧ i = .int .i64 (k : Int) ∧ IOk N B I ∧ Post (Ow b vb vc vs vt I J R) w0 F wr
def RelA2 (b : Nat) (vb vc vs vt : Value) (J : List Is) (R : Pc) (w0 : World) (F : List Nat) (N B k m : Nat) (i : Value) (wr : World) : Prop :=
  ∃ (j : Nat) (I : List It) (x : It), j ≤ m ∧ i = .int .i64 (j : Int) ∧ IOk N B I ∧ I[k]? = some x ∧ x.bs.length = m ∧ Post (Ow b vb vc vs vt I J R) w0 F wr
theorem row_bset {v : Value} {l : List UInt8} {j : Nat} {y : UInt8} {r : Pc} {w0 w : World} {F : List Nat} (h : Post ((Pc.row 5 1 v l.length ((l.map byteV).set j (byteV y))).star r) w0 F w) : Post ((rowOf v (l.set j y)).star r) w0 F w := by
  unfold rowOf
  rw [List.length_set, List.map_set]
  exact h
theorem ow_mark {b : Nat} {vb vc vs vt v u : Value} {I : List It} {J : List Is} {R : Pc} {l l' : List UInt8} {k : Nat} {w0 w : World} {F : List Nat} (hx : I[k]? = some ⟨v, u, l⟩)
    (h : Post (OwB b vb vc vs vt v u l' l' (items (I.eraseIdx k)) (I.map It.v) (I.map It.u) I.length ((RsJ vs vt J).star R)) w0 F w) : Post (Ow b vb vc vs vt (I.set k ⟨v, u, l'⟩) J R) w0 F w := by
  have e1 : (I.map It.v).set k v = I.map It.v := set_self (by rw [List.getElem?_map, hx]; rfl)
  have e2 : (I.map It.u).set k u = I.map It.u := set_self (by rw [List.getElem?_map, hx]; rfl)
  have h2 := ow_shutB (b := b) (vb := vb) (vc := vc) (vs := vs) (vt := vt) (J := J) (R := R) (x := ⟨v, u, l'⟩) (List.getElem?_eq_some_iff.1 hx).1
  simp only at h2
  rw [e1, e2] at h2
  exact h.ent h2
theorem row_sset {v : Value} {l : List StatP} {j : Nat} {y : StatP} {r : Pc} {w0 w : World} {F : List Nat} (hj : j < l.length) (h : Post ((Pc.row 35 13 v l.length (spl (flatT l) (j * 13) (statV y).toList)).star r) w0 F w) : Post ((rowS v (l.set j y)).star r) w0 F w := by
  unfold rowS
  rw [List.length_set, ← flatT_set _ _ _ hj]
  exact h
theorem ow_markS {b : Nat} {vb vc vs vt v u : Value} {I : List It} {J : List Is} {R : Pc} {l l' : List StatP} {k : Nat} {w0 w : World} {F : List Nat} (hx : J[k]? = some ⟨v, u, l⟩)
    (h : Post (OwS b vb vc vs vt v u l' l' (itemsS (J.eraseIdx k)) (J.map Is.v) (J.map Is.u) J.length ((RbI vb vc I).star R)) w0 F w) : Post (Ow b vb vc vs vt I (J.set k ⟨v, u, l'⟩) R) w0 F w := by
  have e1 : (J.map Is.v).set k v = J.map Is.v := set_self (by rw [List.getElem?_map, hx]; rfl)
  have e2 : (J.map Is.u).set k u = J.map Is.u := set_self (by rw [List.getElem?_map, hx]; rfl)
  have h2 := ow_shutS (b := b) (vb := vb) (vc := vc) (vs := vs) (vt := vt) (I := I) (R := R) (x := ⟨v, u, l'⟩) (List.getElem?_eq_some_iff.1 hx).1
  simp only at h2
  rw [e1, e2] at h2
  exact h.ent h2
def RelB (b : Nat) (vb vc vs vt : Value) (I : List It) (R : Pc) (w0 : World) (F : List Nat) (N B : Nat) (i : Value) (wr : World) : Prop :=
  ∃ (k : Nat) (J : List Is), k ≤ N ∧ i = .int .i64 (k : Int) ∧ JOk N B J ∧ Post (Ow b vb vc vs vt I J R) w0 F wr
def RelB2 (b : Nat) (vb vc vs vt : Value) (I : List It) (R : Pc) (w0 : World) (F : List Nat) (N B k m : Nat) (i : Value) (wr : World) : Prop :=
  ∃ (j : Nat) (J : List Is) (x : Is), j ≤ m ∧ i = .int .i64 (j : Int) ∧ JOk N B J ∧ J[k]? = some x ∧ x.L.length = m ∧ Post (Ow b vb vc vs vt I J R) w0 F wr
/-- The records that own lays. -/
def statE (d a m : Nat) : StatP := { StatP.zero with dev := d, atime := a, mtime := m }
theorem info35o : (Tryz.prog.info? 35).map (·.size) = some 13 := by kernel_rfl
/-- What own leaves: as many lists, of bounded lengths. -/
def OwnPost (b : Nat) (vb vc vs vt : Value) (N M : Nat) (R : Pc) (w0 : World) (F : List Nat) (e : Ending) (w' : World) : Prop :=
  e = .returned (.bool true) ∧ ∃ I' J', IOk N 1010000040 I' ∧ JOk M 1010000040 J' ∧ Post (Ow b vb vc vs vt I' J' R) w0 F w'
set_option maxRecDepth 100000 in
set_option maxHeartbeats 40000000 in
noncomputable def own_c : {P : Prop // Hid P → ∀ (w0 w : World) (F : List Nat) (b : Nat) (vb vc vs vt : Value) (I : List It) (J : List Is) (R : Pc), Post (Ow b vb vc vs vt I J R) w0 F w → OwOk I J 1010000000 →
    Calls Tryz.prog 6 #[.pointer (some ⟨b, 0, none⟩)] w (OwnPost b vb vc vs vt I.length J.length R w0 F)} := Subtype.mk _ (by
  intro hPP w0 w F b vb vc vs vt I J R h hok
  have HS := Lib.hid (ksame_any h ⟨hok.i, hok.j, fun x hx => by have := hok.bi x hx; omega, fun x hx => by have := hok.bj x hx; omega⟩)
  have HI : Hid (IOk I.length 1010000000 I) := Lib.hid ⟨rfl, hok.bi⟩
  have HJ : Hid (JOk J.length 1010000000 J) := Lib.hid ⟨rfl, hok.bj⟩
  have hil := hok.i
  have hjl := hok.j
  obtain ⟨hb, h1, h2, h3, h4⟩ := ow_cells h
  obtain ⟨Ab, cb, rfl⟩ := own_ctor h1
  obtain ⟨Ac, cc, rfl⟩ := own_ctor h2
  obtain ⟨As, cs, rfl⟩ := own_ctor h3
  obtain ⟨At, ct, rfl⟩ := own_ctor h4
  clear h hok hb h1 h2 h3 h4
  generalize hN : I.length = N at *
  generalize hM : J.length = M at *
  clear hN hM
  go_enter Tryz.func6, Tryz.ntmps6
  go_wp2_with fail
  refine HS.out.mono ?_; rintro e w1 ⟨rfl, hp⟩
  have H1 := Lib.hid hp
  clear hp HS
  go_upto_block 0 with fail
  go_cut [4, 5] from 15 (fun _ _ w' => ∃ I, IOk N 1010000000 I ∧ Post (Ow b (.slice Ab N cb) (.slice Ac N cc) (.slice As M cs) (.slice At M ct) I J R) w0 F w')
  case first =>
    go_wp2_with fail
    go_loopw [4, 5] (fun i _ wr => RelA b (.slice Ab N cb) (.slice Ac N cc) (.slice As M cs) (.slice At M ct) J R w0 F N 1010000000 i wr) (fun i _ _ => N - (intOf i).toNat)
    case atStart => exact ⟨0, I, by omega, rfl, HI.out, H1.out⟩
    case round =>
      obtain ⟨k, I, hk, rfl, hi, hp⟩ := hrel
      have HP := Lib.hid hp
      have HI := Lib.hid hi
      obtain ⟨hb, h1, h2, -, -⟩ := ow_cells hp
      obtain ⟨c0, c1, c2, c3, -, -, -, -⟩ := bcell4 hb
      rcases Nat.lt_or_ge k N with hlt | hge
      · obtain ⟨x, hx⟩ : ∃ x, I[k]? = some x := ⟨_, List.getElem?_eq_getElem (by rw [hi.len]; exact hlt)⟩
        have HX := Lib.hid hx
        have hxb := hi.bs x (List.mem_of_getElem? hx)
        clear hp hb h1 h2 hx hi
        go_wp2_with fail
        clear c0 c1 c2 c3
        go_loopw [5] (fun i wr => RelA2 b (.slice Ab N cb) (.slice Ac N cc) (.slice As M cs) (.slice At M ct) J R w0 F N 1010000000 k x.bs.length i wr) (fun i _ => x.bs.length - (intOf i).toNat)
        case atStart => exact ⟨0, I, x, by omega, rfl, HI.out, HX.out, rfl, HP.out⟩
        case round =>
          obtain ⟨j, I, y, hj, rfl, hi, hy, hym, hp⟩ := hrel
          have HI := Lib.hid hi
          have HY := Lib.hid hy
          have HYM := Lib.hid hym
          have hq := hp.ent (ow_openB hy)
          rw [hi.len] at hq
          have HQ := Lib.hid hq
          obtain ⟨hb, h1, h2, r1, r2⟩ := owB_cells hq
          obtain ⟨c0, c1, c2, c3, -, -, -, -⟩ := bcell4 hb
          obtain ⟨g1, q1, e1, d1, -⟩ := row_cell h1 (i := k) (x := y.v) (by rw [List.getElem?_map, hy]; rfl)
          obtain ⟨g2, q2, e2, d2, -⟩ := row_cell h2 (i := k) (x := y.u) (by rw [List.getElem?_map, hy]; rfl)
          injection e1 with e1 _ e1c
          injection e2 with e2 _ e2c
          subst e1
          subst e1c
          subst e2
          subst e2c
          have HP := Lib.hid hp
          obtain ⟨yv, yu, ybs⟩ := y
          simp only at r1 r2 d1 d2 hym HQ
          obtain ⟨Av, cv, rfl⟩ := own_ctor r1
          obtain ⟨Au, cu, rfl⟩ := own_ctor r2
          generalize x.bs.length = m at *
          subst hym
          rcases Nat.lt_or_ge j ybs.length with hlt2 | hge2
          · obtain ⟨gv, qv, e1, a1, f1⟩ := row_cell r1 (i := j) (x := byteV ybs[j]) (by simp [hlt2])
            obtain ⟨gu, qu, e2, a2, f2⟩ := row_cell r2 (i := j) (x := byteV ybs[j]) (by simp [hlt2])
            injection e1 with e1 _ e1c
            injection e2 with e2 _ e2c
            subst e1
            subst e1c
            subst e2
            subst e2c
            unfold byteV at a1 a2
            have hM : ((k : Int) + (j : Int)) % 256 = ((UInt8.ofNat (k + j)).toNat : Int) := by rw [UInt8.toNat_ofNat']; omega
            generalize UInt8.ofNat (k + j) = Y at *
            have HM := Lib.hid hM
            clear hp hq hb h1 h2 r1 r2 hy hi hM
            go_upto_region 11 with fail
            rw [HM.out]
            clear c0 c1 c2 c3 d1 d2 a1 a2 f1 f2
            have hq2 := row_bset (HQ.out.step (row_set1 (i := j) (byteV Y)))
            change Post (OwB b _ _ _ _ _ _ (ybs.set j Y) ybs _ _ _ N _) w0 F _ at hq2
            unfold byteV at hq2
            generalize wr.setCell ⟨gv, j, none⟩ (.int .u8 (Y.toNat : Int)) = W2 at *
            have HQ2 := Lib.hid hq2
            obtain ⟨hb, h1, h2, r1, r2⟩ := owB_cells hq2
            obtain ⟨c0, c1, c2, c3, -, -, -, -⟩ := bcell4 hb
            obtain ⟨g2', q2, e2, d2, -⟩ := row_cell h2 (i := k) (x := .slice (some ⟨gu, 0, none⟩) ybs.length cu) (by rw [List.getElem?_map, HY.out]; rfl)
            injection e2 with e2 _ e2c
            injection e2 with e2
            injection e2 with e2
            subst e2
            obtain ⟨gu', qu, e2, a2, f2⟩ := row_cell r2 (i := j) (x := byteV ybs[j]) (by simp [hlt2])
            injection e2 with e2 _ e2c
            injection e2 with e2
            injection e2 with e2
            subst e2
            unfold byteV at a2
            have HR : Hid (RelA2 b (.slice (some ⟨g1, 0, none⟩) N cb) (.slice (some ⟨g2, 0, none⟩) N cc) (.slice As M cs) (.slice At M ct) J R w0 F N 1010000000 k ybs.length (.int .i64 ((j : Int) + 1)) (W2.setCell ⟨gu, j, none⟩ (.int .u8 (((k : Int) + (j : Int)) % 256)))) := Lib.hid (by
              rw [HM.out]
              have hq3 := (row_bset ((hq2.ent (Pc.Ent.swap _ _ _)).step (row_set1 (i := j) (byteV Y)))).ent (Pc.Ent.swap _ _ _)
              refine ⟨j + 1, I.set k ⟨.slice (some ⟨gv, 0, none⟩) ybs.length cv, .slice (some ⟨gu, 0, none⟩) ybs.length cu, ybs.set j Y⟩, ⟨.slice (some ⟨gv, 0, none⟩) ybs.length cv, .slice (some ⟨gu, 0, none⟩) ybs.length cu, ybs.set j Y⟩, by omega, rfl, HI.out.set k (by rw [List.length_set]; exact HI.out.bs _ (List.mem_of_getElem? HY.out)), List.getElem?_set_self (by rw [HI.out.len]; exact hlt), by rw [List.length_set], ow_mark HY.out (by rw [HI.out.len]; exact hq3)⟩)
            clear hq2 hb h1 h2 r1 r2
            go_wp2_with fail
            exact ⟨HR.out, by simp only [intOf]; omega⟩
          · obtain rfl : j = ybs.length := by omega
            clear hp hq hb h1 h2 r1 r2 hy hi
            have HR : Hid (RelA b (.slice (some ⟨g1, 0, none⟩) N cb) (.slice (some ⟨g2, 0, none⟩) N cc) (.slice As M cs) (.slice At M ct) J R w0 F N 1010000000 (.int .i64 ((k : Int) + 1)) wr) := Lib.hid ⟨k + 1, I, by omega, rfl, HI.out, HP.out⟩
            go_wp2_with fail
            exact ⟨HR.out, by simp only [intOf]; omega⟩
      · obtain rfl : k = N := by omega
        clear hp hb h1 h2 hi H1
        go_wp2_with fail
        go_meet
        case rel => exact ⟨I, HI.out, HP.out⟩
  case rest =>
  clear H1 HI I
  obtain ⟨I, hi, hp⟩ := hcut
  rename World => w2
  have HI := Lib.hid hi
  have HP := Lib.hid hp
  clear hi hp w1
  go_upto_block 4 with fail
  go_cut [6, 7] from 15 (fun _ _ w' => ∃ J, JOk M 1010000000 J ∧ Post (Ow b (.slice Ab N cb) (.slice Ac N cc) (.slice As M cs) (.slice At M ct) I J R) w0 F w')
  case first =>
    go_wp2_with fail
    go_loopw [6, 7] (fun i _ wr => RelB b (.slice Ab N cb) (.slice Ac N cc) (.slice As M cs) (.slice At M ct) I R w0 F M 1010000000 i wr) (fun i _ _ => M - (intOf i).toNat)
    case atStart => exact ⟨0, J, by omega, rfl, HJ.out, HP.out⟩
    case round =>
      obtain ⟨h, J, hh, rfl, hj, hp⟩ := hrel
      have HP := Lib.hid hp
      have HJ := Lib.hid hj
      obtain ⟨hb, -, -, h1, h2⟩ := ow_cells hp
      obtain ⟨c0, c1, c2, c3, -, -, -, -⟩ := bcell4 hb
      rcases Nat.lt_or_ge h M with hlt | hge
      · obtain ⟨x, hx⟩ : ∃ x, J[h]? = some x := ⟨_, List.getElem?_eq_getElem (by rw [hj.len]; exact hlt)⟩
        have HX := Lib.hid hx
        have hxb := hj.bs x (List.mem_of_getElem? hx)
        clear hp hb h1 h2 hx hj
        go_wp2_with fail
        clear c0 c1 c2 c3
        go_loopw [7] (fun i wr => RelB2 b (.slice Ab N cb) (.slice Ac N cc) (.slice As M cs) (.slice At M ct) I R w0 F M 1010000000 h x.L.length i wr) (fun i _ => x.L.length - (intOf i).toNat)
        case atStart => exact ⟨0, J, x, by omega, rfl, HJ.out, HX.out, rfl, HP.out⟩
        case round =>
          obtain ⟨j, J, y, hjl2, rfl, hj, hy, hym, hp⟩ := hrel
          have HJ := Lib.hid hj
          have HY := Lib.hid hy
          have hq := hp.ent (ow_openS hy)
          rw [hj.len] at hq
          have HQ := Lib.hid hq
          obtain ⟨hb, h1, h2, r1, r2⟩ := owS_cells hq
          obtain ⟨c0, c1, c2, c3, -, -, -, -⟩ := bcell4 hb
          obtain ⟨g1, q1, e1, d1, -⟩ := row_cell h1 (i := h) (x := y.v) (by rw [List.getElem?_map, hy]; rfl)
          obtain ⟨g2, q2, e2, d2, -⟩ := row_cell h2 (i := h) (x := y.u) (by rw [List.getElem?_map, hy]; rfl)
          injection e1 with e1 _ e1c
          injection e2 with e2 _ e2c
          subst e1
          subst e1c
          subst e2
          subst e2c
          have HP := Lib.hid hp
          obtain ⟨yv, yu, yl⟩ := y
          simp only at r1 r2 d1 d2 hym HQ
          obtain ⟨Av, cv, rfl⟩ := own_ctor r1
          obtain ⟨Au, cu, rfl⟩ := own_ctor r2
          generalize x.L.length = m at *
          subst hym
          rcases Nat.lt_or_ge j yl.length with hlt2 | hge2
          · obtain ⟨gv, qv, e1⟩ : ∃ g c, Value.slice Av yl.length cv = .slice (some ⟨g, 0, none⟩) yl.length c := by
              rcases ownsRow_form r1 with ⟨-, h0, -⟩ | ⟨g, c, h0, -⟩
              · omega
              · exact ⟨g, c, h0⟩
            obtain ⟨gu, qu, e2⟩ : ∃ g c, Value.slice Au yl.length cu = .slice (some ⟨g, 0, none⟩) yl.length c := by
              rcases ownsRow_form r2 with ⟨-, h0, -⟩ | ⟨g, c, h0, -⟩
              · omega
              · exact ⟨g, c, h0⟩
            injection e1 with e1 _ e1c
            injection e2 with e2 _ e2c
            subst e1
            subst e1c
            subst e2
            subst e2c
            obtain ⟨old, hold, holds⟩ := HQ.out.ownAt (e := 35) (size := 13) (g := gv) (n := yl.length) (c := cv) (xs := flatT yl) (Pc.Ent.left _ _)
            have HOLD := Lib.hid hold
            have s1 : ((h : Int) % 4294967296) = (h : Int) := by omega
            have s2 : ((j : Int) % 4294967296) = (j : Int) := by omega
            clear hp hq hb h1 h2 r1 r2 hy hj hold
            go_upto_region 19 with (refine wpList_store_rowmid rfl 35 _ _ rfl gv (j * 13) (statV (statE h j 0)) rfl rfl 35 old HOLD.out info35o (by rw [show (statV (statE h j 0)).size = 13 from rfl]; omega) (statV_one _) ?_)
            clear c0 c1 c2 c3 d1 d2
            have hq2 := row_sset (y := statE h j 0) hlt2 (HQ.out.step (row_spl HOLD.out (j * 13) (statV (statE h j 0)).toList (by rw [statV_len']; omega)))
            change Post (OwS b _ _ _ _ _ _ (yl.set j (statE h j 0)) yl _ _ _ M _) w0 F _ at hq2
            generalize wr.setRow gv (spl old.toList (j * 13) (statV (statE h j 0)).toList).toArray = W2 at *
            have HQ2 := Lib.hid hq2
            obtain ⟨hb, h1, h2, r1, r2⟩ := owS_cells hq2
            obtain ⟨c0, c1, c2, c3, -, -, -, -⟩ := bcell4 hb
            obtain ⟨g2', q2, e2, d2, -⟩ := row_cell h2 (i := h) (x := .slice (some ⟨gu, 0, none⟩) yl.length cu) (by rw [List.getElem?_map, HY.out]; rfl)
            injection e2 with e2 _ e2c
            injection e2 with e2
            injection e2 with e2
            subst e2
            obtain ⟨old2, hold, holds2⟩ := hq2.ownAt (e := 35) (size := 13) (g := gu) (n := yl.length) (c := cu) (xs := flatT yl) ((Pc.Ent.right _ _).trans (Pc.Ent.left _ _))
            have HOLD2 := Lib.hid hold
            have HR : Hid (RelB2 b (.slice Ab N cb) (.slice Ac N cc) (.slice (some ⟨g1, 0, none⟩) M cs) (.slice (some ⟨g2, 0, none⟩) M ct) I R w0 F M 1010000000 h yl.length (.int .i64 ((j : Int) + 1)) (W2.setRow gu (spl old2.toList (j * 13) (statV (statE h j 0)).toList).toArray)) := Lib.hid (by
              have hq3 := (row_sset (y := statE h j 0) hlt2 ((hq2.ent (Pc.Ent.swap _ _ _)).step (row_spl hold (j * 13) (statV (statE h j 0)).toList (by rw [statV_len']; omega)))).ent (Pc.Ent.swap _ _ _)
              refine ⟨j + 1, J.set h ⟨.slice (some ⟨gv, 0, none⟩) yl.length cv, .slice (some ⟨gu, 0, none⟩) yl.length cu, yl.set j (statE h j 0)⟩, ⟨.slice (some ⟨gv, 0, none⟩) yl.length cv, .slice (some ⟨gu, 0, none⟩) yl.length cu, yl.set j (statE h j 0)⟩, by omega, rfl, HJ.out.set h (by rw [List.length_set]; exact HJ.out.bs _ (List.mem_of_getElem? HY.out)), List.getElem?_set_self (by rw [HJ.out.len]; exact hlt), by rw [List.length_set], ow_markS HY.out (by rw [HJ.out.len]; exact hq3)⟩)
            clear hq2 hb h1 h2 r1 r2 hold
            go_wp2_with (refine wpList_store_rowmid rfl 35 _ _ rfl gu (j * 13) (statV (statE h j 0)) rfl rfl 35 old2 HOLD2.out info35o (by rw [show (statV (statE h j 0)).size = 13 from rfl]; omega) (statV_one _) ?_)
            exact ⟨HR.out, by simp only [intOf]; omega⟩
          · obtain rfl : j = yl.length := by omega
            clear hp hq hb h1 h2 r1 r2 hy hj
            have HR : Hid (RelB b (.slice Ab N cb) (.slice Ac N cc) (.slice (some ⟨g1, 0, none⟩) M cs) (.slice (some ⟨g2, 0, none⟩) M ct) I R w0 F M 1010000000 (.int .i64 ((h : Int) + 1)) wr) := Lib.hid ⟨h + 1, J, by omega, rfl, HJ.out, HP.out⟩
            go_wp2_with fail
            exact ⟨HR.out, by simp only [intOf]; omega⟩
      · obtain rfl : h = M := by omega
        clear hp hb h1 h2 hj
        go_wp2_with fail
        go_meet
        case rel => exact ⟨J, HJ.out, HP.out⟩
  case rest =>
  clear HP HJ J
  obtain ⟨J, hj, hp⟩ := hcut
  rename World => w3
  clear w2
  have HJ := Lib.hid hj
  have HP := Lib.hid hp
  clear hj hp
  go_upto_block 8 with fail
  go_cut [8, 9, 10] from 15 (fun _ _ _ w' => ∃ I J, IOk N 1010000040 I ∧ JOk M 1010000040 J ∧ Post (Ow b (.slice Ab N cb) (.slice Ac N cc) (.slice As M cs) (.slice At M ct) I J R) w0 F w')
  case first =>
    rename_i K0 hK0 J0 K1 hJ0 hK1
    clear hK0 K0
    revert w0 w F b R Ab cb Ac cc As cs At ct N M w3 I J J0 K1 u4 u5 u6 u7 u15 u16 u17 u18 u19 u20 u21 u22 u23 u24 u25 u26 u27 u28 u29 u30 u31 u32 u33 u34 u35 u36 u37 u38 u39 u40 u41 u42 u43 u44 u45 u46 u47 u48 u49 u50 u51 u52 u53 u54 u55 u56 u57 u58 u59 u60 u61 u62 u63 u64 u65 u66 u67 u68 u69 u70 u71 u72 u73 u74 u75 u76 u77 u78 u79 u80 u81 u82 u83 u84 u85 u86 u87 u88 u89 u90 u91 u92 u93 u94 u95 u96 u97 u98 u99 u100 u101 u102 u103 u104 u105 u106 u107 u108 u109 u110 u111 u112 u113 u114 u115 u116 u117 u118 u119 u120 u121 u122 u123 u124 u125 u126 u127 u128 u129 u130 u131 u132 u133 u134 u135 u136 u137 u138 u139 u140 u141 u142 u143 u144 u145 u146 u147 u148 u149 u150 u151 u152 u153 u154 u155 u156 u157 u158 u159 u160 u161 u162 u163 u164 u165 u166 u167 u168 u169 u170 u171 u172 u173 u174 u175 u176 u177 u178 u179 u180 u181 u182 u183 u184 u185 u186 u187 u188 u189 u190 u191 u192 u193 u194 u195 u196 u197 u198 u199 u200 u201 u202 u203 u204 u205 u206 u207 u208 u209 u210 u211 u212 u213 u214 u215 u216
    exact hPP.out
  case rest =>
  obtain ⟨I, J, hi, hj, hp⟩ := hcut
  have HS := Lib.hid (ksame_any hp ⟨by rw [hi.len]; exact hil, by rw [hj.len]; exact hjl, fun x hx => by have := hi.bs x hx; omega, fun x hx => by have := hj.bs x hx; omega⟩)
  have HI := Lib.hid hi
  have HJ := Lib.hid hj
  clear hi hj hp
  go_wp2_with fail
  refine HS.out.mono ?_; rintro e w9 ⟨rfl, hp⟩
  have HP9 := Lib.hid hp
  clear hp HS
  go_wp2_with fail
  go_ret
  exact ⟨rfl, I, J, HI.out, HJ.out, HP9.out⟩)
end Go.Proofs.YtnpokdbpmnkbjaaGreatDoor
