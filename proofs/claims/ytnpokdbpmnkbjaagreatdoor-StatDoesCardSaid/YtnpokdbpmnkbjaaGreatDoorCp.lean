/- The step pack. -/
import Derived.Test.YtnpokdbpmnkbjaaGreatDoorCc
import Derived.Test.YtnpokdbpmnkbjaaGreatDoorOw
namespace Go.Proofs.YtnpokdbpmnkbjaaGreatDoor
open Go.RowKit Me

/-- An argument: a slice of records that was there before. -/
structure ArgS (w0 : World) (v : Value) (L : List StatP) : Prop where
  rd : Sts w0 v L
  fits : ∀ s ∈ L, s.Fits ∧ s.size ≤ 268435456
  len : (encT L).length ≤ 268435456
  cnt : L.length ≤ 268435456
/-- A list that is read but once, at the beginning. -/
structure ArgL (w : World) (v : Value) (L : List StatP) : Prop where
  rd : Sts w v L
  fits : ∀ s ∈ L, s.Fits ∧ s.size ≤ 268435456
  len : (encT L).length ≤ 268435456
  cnt : L.length ≤ 268435456
theorem ArgL.mods {w w' : World} {v : Value} {L : List StatP} (h : ArgL w v L) (hm : Mods [] w w') : ArgL w' v L := ⟨h.rd.mods hm, h.fits, h.len, h.cnt⟩
theorem ArgS.at {w0 w : World} {v : Value} {L : List StatP} {p : Pc} (h : ArgS w0 v L) (hp : Post p w0 [] w) : Sts w v L := h.rd.mods hp.mods
def statD (n : Nat) : StatP := { StatP.zero with dev := n }
/-- Written over, record by record. -/
def ovt (L M : List StatP) (k : Nat) : List StatP := M.take k ++ L.drop k
theorem ovt_len {L M : List StatP} {k : Nat} (h1 : k ≤ L.length) (h2 : k ≤ M.length) : (ovt L M k).length = L.length := by simp [ovt]; omega
theorem ovt_next {L M : List StatP} {k : Nat} (h1 : k < L.length) (h2 : k < M.length) : (ovt L M k).set k M[k] = ovt L M (k + 1) := by
  unfold ovt
  rw [List.drop_eq_getElem_cons h1, List.set_append, if_neg (by simp; omega), List.length_take, show k - min k M.length = 0 by omega, List.set_cons_zero]
  have e : M.take (k + 1) = M.take k ++ [M[k]] := by rw [List.take_add_one, List.getElem?_eq_getElem h2]; rfl
  rw [e, List.append_assoc]
  rfl
theorem encT_append (L M : List StatP) : encT (L ++ M) = encT L ++ encT M := by simp [encT]
theorem ovt_enc (L M : List StatP) (k : Nat) : (encT (ovt L M k)).length ≤ (encT L).length + (encT M).length := by
  unfold ovt
  rw [encT_append, List.length_append]
  have h1 : (encT (M.take k)).length ≤ (encT M).length := by
    have h : encT M = encT (M.take k) ++ encT (M.drop k) := by rw [← encT_append, List.take_append_drop]
    rw [h, List.length_append]
    omega
  have h2 : (encT (L.drop k)).length ≤ (encT L).length := by
    have h : encT L = encT (L.take k) ++ encT (L.drop k) := by rw [← encT_append, List.take_append_drop]
    rw [h, List.length_append]
    omega
  omega
theorem ovt_fits {L M : List StatP} {k : Nat} (h1 : ∀ s ∈ L, s.Fits ∧ s.size ≤ 268435456) (h2 : ∀ s ∈ M, s.Fits ∧ s.size ≤ 268435456) : ∀ s ∈ ovt L M k, s.Fits ∧ s.size ≤ 268435456 := by
  intro s hs
  rcases List.mem_append.1 hs with hs | hs
  · exact h2 s (List.mem_of_mem_take hs)
  · exact h1 s (List.mem_of_mem_drop hs)
theorem Sts.pre {w : World} {ad : Option Addr} {n c : Nat} {L M : List StatP} (h : Sts w (.slice ad n c) (L ++ M)) : Sts w (.slice ad L.length c) L := by
  obtain ⟨A, c', e, h1, h2, h3⟩ := h
  obtain ⟨rfl, -, rfl⟩ := Value.slice.inj e
  refine ⟨ad, c, rfl, by simp at h1; omega, h2, fun i s hs => h3 i s (by rw [List.getElem?_append_left (List.getElem?_eq_some_iff.1 hs).1]; exact hs)⟩
theorem Sts.src {w : World} {v : Value} {L : List StatP} (h : Sts w v L) : Src Tryz.prog 13 38 v L.length (flatT L) w := by
  obtain ⟨A, c, rfl, _, _, h3⟩ := h
  cases L with
  | nil =>
    cases A with
    | none => exact Src.ofNil _ Tryz.underlying38 _
    | some ad => exact Src.ofSlice _ Tryz.underlying38 _ _ _ _ (by simp [flatT]) (fun j u hu => by simp [flatT] at hu) (flatT_one _)
  | cons x L =>
    obtain ⟨g, off, rfl, _⟩ := h3 0 x rfl
    refine Src.ofSlice _ Tryz.underlying38 _ _ _ _ (flatT_len _) (fun j u hu => ?_) (flatT_one _)
    have hj := (List.getElem?_eq_some_iff.1 hu).1
    rw [flatT_len] at hj
    obtain ⟨s, hs⟩ : ∃ s, (x :: L)[j / 13]? = some s := ⟨_, List.getElem?_eq_getElem (by omega)⟩
    obtain ⟨g2, off2, e, hr⟩ := h3 (j / 13) s hs
    cases e
    rw [show j = j / 13 * 13 + j % 13 by omega, flatT_at _ _ _ s hs (by omega)] at hu
    have := hr _ u hu
    rw [Addr.add_lit]
    rw [show off + j = off + j / 13 * 13 + j % 13 by omega]
    exact this
/-- A record in a row of one's own. -/
theorem row_rec {w : World} {base g n n' c i : Nat} {L : List StatP} {s : StatP} (h : w.ownsRow base 35 13 (.slice (some ⟨g, 0, none⟩) n' c) n (flatT L)) (hn : n = L.length) (hs : L[i]? = some s) : w.rangeAt g (i * 13) (statV s).toList := by
  obtain ⟨g2, off, e, hr⟩ := (Sts.of_own h hn).at hs
  cases e
  simpa using hr
def RelPa (w0 : World) (b n g N c : Nat) (enc : Nat) (R : Pc) (i : Value) (wr : World) : Prop :=
  ∃ (k : Nat) (cur : List StatP), k ≤ 2 ∧ i = .int .i64 (k : Int) ∧ cur.length = N ∧ (∀ s ∈ cur, s.Fits ∧ s.size ≤ 268435456) ∧ (encT cur).length ≤ 268435456 + k * enc ∧
    Post ((rowS (.slice (some ⟨g, 0, none⟩) (N + 2) c) (cur ++ [statD 77, statD 78])).star ((BkQ b (n + k)).star R)) w0 [] wr
def RelPi (w0 : World) (b n g N c : Nat) (R : Pc) (cur M : List StatP) (i : Value) (wr : World) : Prop :=
  ∃ j : Nat, j ≤ N ∧ j ≤ M.length ∧ i = .int .i64 (j : Int) ∧ Post ((rowS (.slice (some ⟨g, 0, none⟩) (N + 2) c) (ovt cur M j ++ [statD 77, statD 78])).star ((BkQ b n).star R)) w0 [] wr
theorem info35p : (Tryz.prog.info? 35).map (·.size) = some 13 := by kernel_rfl
set_option maxRecDepth 100000 in
set_option maxHeartbeats 4000000 in
theorem kpack_any {w0 w : World} {b n : Nat} {R : Pc} {vl vm : Value} {L M : List StatP} (h : Post ((BkQ b n).star R) w0 [] w) (hnn : n ≤ 999999000) (hT : Lib.Utf8Tabs 0 1 w0) (most : Int) (hmo : -9223372036854775808 ≤ most ∧ most ≤ 9223372036854775807) (hL : ArgL w vl L) (hM : ArgS w0 vm M) :
    Calls Tryz.prog 13 #[.pointer (some ⟨b, 0, none⟩), .int .i64 most, vl, vm] w fun e w' => e = .returned (.bool true) ∧ Post ((BkQ b (n + 2)).star R) w0 [] w' := by
  have H0 := Lib.hid h
  have HT := Lib.hid hT
  have HL := Lib.hid hL
  have HM := Lib.hid hM
  have hlc := hL.cnt
  have hmc := hM.cnt
  have hle := hL.len
  have hme := hM.len
  have HSL := Lib.hid hL.rd
  obtain ⟨Al, cl, rfl, -⟩ := hL.rd
  obtain ⟨Am, cm, rfl, -⟩ := hM.rd
  clear hL hM hT h
  obtain ⟨i0, hi, hz0, hz1, hz2⟩ := info_parts info90'
  go_enter Tryz.func13, Tryz.ntmps13
  go_wp2_with (at_builtin; go_must (refine wpList_app _ rfl _ _ 38 38 rfl w.heap.size 35 i0 (.agg zeroV) 13 112 Tryz.underlying38 hi hz0 hz1 hz2 rfl (.slice none 0 0) 0 [] rfl (World.ownsRow_nil _ _ _ _) _ L.length (flatT L) rfl ?c1 ?c2 ?c3 ?c4 ?_))
  case c1 => exact HSL.out.src
  case c2 => unfold maxLen; omega
  case c3 => omega
  case c4 => exact Nat.le_refl _
  intro va w1 hown hgrow hat
  have hp1 := H0.out.addRow (v := va) (n := L.length) (xs := flatT L) ((Mods.refl [] w).grown hgrow (by simp [Value.ownBlock])) (by simpa using hown)
  have H1 := Lib.hid hp1
  have HO := Lib.hid (hp1.rowAt (Pc.Ent.left _ _))
  obtain ⟨A1, c1, rfl⟩ := own_ctor hown
  clear hown hgrow hat hp1 H0 HSL
  go_wp2_with (at_builtin; go_must (refine wpList_app _ rfl _ _ 38 38 rfl 0 35 i0 (.agg zeroV) 13 112 Tryz.underlying38 hi hz0 hz1 hz2 rfl _ _ _ rfl (HO.out.alloc _) _ 2 (flatT [statD 77, statD 78]) rfl ?d1 ?d2 ?d3 ?d4 ?_))
  case d1 => exact Src.ofSlice _ Tryz.underlying38 _ _ _ _ rfl (cells_new w1 (flatT [statD 77, statD 78]) 35) (flatT_one _)
  case d2 => unfold maxLen; omega
  case d3 => omega
  case d4 => exact Nat.zero_le _
  intro vb w2 hown hgrow hat
  have hp2 := H1.out.step (row_turn hown hgrow (by simpa using hat))
  rw [← flatT_append] at hp2 hown
  obtain ⟨g, c, rfl⟩ : ∃ g c, vb = .slice (some ⟨g, 0, none⟩) (L.length + 2) c := by
    rcases ownsRow_form hown with ⟨-, h0, -⟩ | ⟨g, c, h0, -⟩
    · omega
    · exact ⟨g, c, h0⟩
  have H2 : Hid (Post ((rowS (.slice (some ⟨g, 0, none⟩) (L.length + 2) c) (L ++ [statD 77, statD 78])).star ((BkQ b n).star R)) w0 [] w2) := Lib.hid (by unfold rowS; simpa using hp2)
  have hcap : L.length + 2 ≤ c ∧ c ≤ maxLen := by
    obtain ⟨A', c', e, h1, h2⟩ := ownsRow_slice hown
    obtain ⟨-, -, rfl⟩ := Value.slice.inj e
    exact ⟨h1, h2⟩
  clear hown hgrow hat hp2 H1 HO
  have HLF : Hid (∀ s ∈ L, s.Fits ∧ s.size ≤ 268435456) := Lib.hid HL.out.fits
  have hN : L.length = L.length := rfl
  generalize hLN : L.length = N at *
  have HLN := Lib.hid hLN
  clear hLN hN
  unfold maxLen at hcap
  go_wp2_with fail
  go_loopw [11] (fun i wr => RelPa w0 b n g N c (encT M).length R i wr) (fun i _ => 2 - (intOf i).toNat)
  case atStart => exact ⟨0, L, by omega, rfl, HLN.out, HLF.out, by omega, H2.out⟩
  case round =>
    obtain ⟨k, cur, hk, rfl, hcl, hcf, hce, hp⟩ := hrel
    have H3 := Lib.hid hp
    have HCL := Lib.hid hcl
    have HCF := Lib.hid hcf
    rcases Nat.lt_or_ge k 2 with hlt | hge
    · have hce2 : (encT cur).length ≤ 536870912 := by
        have : k * (encT M).length ≤ 1 * 268435456 := Nat.mul_le_mul (by omega) hme
        omega
      have hrow := hp.rowAt (Pc.Ent.left _ _)
      have HST := Lib.hid ((Sts.of_own (hrow) (by simp [hcl])).pre)
      rw [hcl] at HST
      clear hp hcl hcf hrow
      go_wp2_with (at_builtin; go_must (refine wpList_app _ rfl _ _ 38 38 rfl wr.heap.size 35 i0 (.agg zeroV) 13 112 Tryz.underlying38 hi hz0 hz1 hz2 rfl (.slice none 0 0) 0 [] rfl (World.ownsRow_nil _ _ _ _) _ N (flatT cur) rfl ?c1 ?c2 ?c3 ?c4 ?_))
      case c1 =>
        have h := HST.out.src
        rw [HCL.out] at h
        exact h
      case c2 => unfold maxLen; omega
      case c3 => omega
      case c4 => exact Nat.le_refl _
      intro va w3 hown hgrow hat
      have hp4 := H3.out.addRow (v := va) (n := N) (xs := flatT cur) ((Mods.refl [] wr).grown hgrow (by simp [Value.ownBlock])) (by simpa using hown)
      have H4 := Lib.hid hp4
      have HW4 := Lib.hid (Sts.of_own (hp4.rowAt (Pc.Ent.left _ _)) HCL.out.symm)
      obtain ⟨A4, c4, rfl⟩ := own_ctor hown
      have hm4 : Mods [] wr w3 := (Mods.refl [] wr).grown hgrow (by simp [Value.ownBlock])
      have HI4 := Lib.hid (HST.out.mods hm4)
      have HPK := Lib.hid (pack_any (w := w3) most hmo cur (by omega) HI4.out (tabs_mods hp4.mods HT.out) (fun s hs => ⟨(HCF.out s hs).1, by have := (HCF.out s hs).2; omega⟩))
      clear hown hgrow hat hp4 hm4
      go_wp2_with fail
      refine HPK.out.mono ?_; rintro e w5 ⟨m, hpk, vb5, rfl, ho5, hm5⟩
      have HPO := Lib.hid hpk
      have H5 := Lib.hid (H4.out.addRow hm5 ho5)
      have HW5 := Lib.hid (HW4.out.mods hm5)
      have HI5 := Lib.hid (HI4.out.mods hm5)
      obtain ⟨A5, c5, rfl⟩ := own_ctor ho5
      clear hpk ho5 hm5
      go_wp2_with fail
      refine (rpack_any (w := w5) most cur (by omega) HW5.out HCF.out).mono ?_; rintro e w6 ⟨m2, hpk, vb6, rfl, ho6, hm6⟩
      obtain rfl : m2 = m := hpk.one HPO.out
      have HU6 := Lib.hid (Rd.of_own ho6)
      have hp6 := H5.out.still hm6
      have H6 := Lib.hid hp6
      have HW6 := Lib.hid (HW5.out.mods hm6)
      have HI6 := Lib.hid (HI5.out.mods hm6)
      obtain ⟨A6, c6, rfl⟩ := own_ctor ho6
      clear hpk ho6 hm6 hp6
      have hbl : (encT (cur.take m2)).length ≤ 536870912 := Nat.le_trans (encT_take cur m2) hce2
      generalize hEB : encT (cur.take m2) = EB at *
      clear hEB
      go_wp2_with fail
      refine (alike_same cur HI6.out HW6.out (by have := HCL.out; omega)).mono ?_; rintro e w7 ⟨rfl, hm7⟩
      have HU7 := Lib.hid (HU6.out.mods hm7 (by simp))
      have hp7 := (H6.out.still hm7).ent ((Pc.Ent.refl _).mono (Pc.perm [_, _, _, _] [2, 1, 0, 3] (n := 4) (by decide)))
      have H7 := Lib.hid hp7
      clear hm7 hp7
      go_wp2_with fail
      refine (BkQ.bytes H7.out HU7.out (by omega) (by omega)).mono ?_; rintro e w8 ⟨rfl, hp8⟩
      have hp9 : Post ((rowS (.slice (some ⟨g, 0, none⟩) (N + 2) c) (cur ++ [statD 77, statD 78])).star ((BkQ b (n + k + 1)).star R)) w0 [] w8 := hp8.ent ((Pc.Ent.swap _ _ _).trans ((Pc.Ent.refl _).mono ((Pc.Ent.refl _).mono (Pc.Ent.right _ _))))
      have H9 := Lib.hid hp9
      have hrw : w8.ownsRow 0 35 13 (.slice (some ⟨g, 0, none⟩) (N + 2) c) _ (flatT (cur ++ [statD 77, statD 78])) := hp9.rowAt (Pc.Ent.left _ _)
      have h77 := row_rec hrw rfl (i := N) (s := statD 77) (by rw [List.getElem?_append_right (by have := HCL.out; omega), HCL.out, Nat.sub_self]; rfl)
      have h78 := row_rec hrw rfl (i := N + 1) (s := statD 78) (by rw [List.getElem?_append_right (by have := HCL.out; omega), HCL.out, show N + 1 - N = 1 by omega]; rfl)
      obtain ⟨c0, c1, c2, c3, c4, c5, c6, c7, c8, c9, c10, c11, c12⟩ := range_stat h77
      obtain ⟨d0, d1, d2, d3, d4, d5, d6, d7, d8, d9, d10, d11, d12⟩ := range_stat h78
      have q1 := nat_ne_self m2
      clear hp8 hp9 hrw h77 h78 H7 HU7
      simp only [statD, StatP.zero, QidP.zero] at c0 c1 c2 c3 c4 c5 c6 c7 c8 c9 c10 c11 c12 d0 d1 d2 d3 d4 d5 d6 d7 d8 d9 d10 d11 d12
      go_wp2_with fail
      clear c0 c1 c2 c3 c4 c5 c6 c7 c8 c9 c10 c11 c12 d0 d1 d2 d3 d4 d5 d6 d7 d8 d9 d10 d11 d12 q1
      go_loopw [19] (fun i wr => RelPi w0 b (n + k + 1) g N c R cur M i wr) (fun i _ => N - (intOf i).toNat)
      case atStart => exact ⟨0, by omega, by omega, rfl, by simpa [ovt] using H9.out⟩
      case round =>
        obtain ⟨j, hj, hjm, rfl, hq⟩ := hrel
        have HQ := Lib.hid hq
        have HLJ := Lib.hid (ovt_len (L := cur) (M := M) (k := j) (by have := HCL.out; omega) hjm)
        by_cases h1 : j < N
        · by_cases h2 : j < M.length
          · obtain ⟨gm, offm, rfl, hrm⟩ := (HM.out.at hq).at (i := j) (s := M[j]) (List.getElem?_eq_getElem h2)
            obtain ⟨c0, c1, c2, c3, c4, c5, c6, c7, c8, c9, c10, c11, c12⟩ := range_stat hrm
            obtain ⟨old, hold, hold2⟩ : ∃ old : Array Value, wr.heap[g]? = some (.cells old 35 (0, 0)) ∧ (N + 2) * 13 ≤ old.size := by
              obtain ⟨old, h1, h2⟩ := (hq.ent (Pc.Ent.left _ _)).ownAt (e := 35) (size := 13) (g := g) (n := N + 2) (c := c) (xs := flatT (ovt cur M j ++ [statD 77, statD 78])) (by
                unfold rowS
                rw [show (ovt cur M j ++ [statD 77, statD 78]).length = N + 2 by simp [HLJ.out, HCL.out]]
                exact Pc.Ent.refl _)
              exact ⟨old, h1, h2⟩
            have HOLD := Lib.hid hold
            have hrl : (ovt cur M j ++ [statD 77, statD 78]).length = N + 2 := by simp [HLJ.out, HCL.out]
            have HN : Hid (RelPi w0 b (n + k + 1) g N c R cur M (.int .i64 ((j : Int) + 1)) (wr.setRow g (spl old.toList (j * 13) (statV M[j]).toList).toArray)) := Lib.hid (by
              refine ⟨j + 1, by omega, by omega, rfl, ?_⟩
              have hr : Post ((Pc.row 35 13 (.slice (some ⟨g, 0, none⟩) (N + 2) c) (N + 2) (flatT (ovt cur M j ++ [statD 77, statD 78]))).star ((BkQ b (n + k + 1)).star R)) w0 [] wr := by
                have h := hq
                unfold rowS at h
                rw [hrl] at h
                exact h
              have hs := hr.step (row_spl hold (j * 13) (statV M[j]).toList (by rw [statV_len']; omega))
              rw [flatT_set _ _ _ (by rw [hrl]; omega), List.set_append, if_pos (by rw [HLJ.out, HCL.out]; exact h1), ovt_next (by rw [HCL.out]; exact h1) h2] at hs
              have hrl2 : (ovt cur M (j + 1) ++ [statD 77, statD 78]).length = N + 2 := by
                rw [List.length_append, ovt_len (by rw [HCL.out]; omega) (by omega), HCL.out]
                rfl
              unfold rowS
              rw [hrl2]
              exact hs)
            clear hq hrm hold hrl
            go_wp2_with (refine wpList_store_rowmid rfl 35 _ _ rfl g (j * 13) (statV M[j]) rfl rfl 35 old HOLD.out info35p (by rw [show (statV M[j]).size = 13 from rfl]; omega) (statV_one _) ?_)
            exact ⟨HN.out, by simp only [intOf]; omega⟩
          · have hb : decide (j < M.length) = false := by simp; omega
            have HR : Hid (RelPa w0 b n g N c (encT M).length R (.int .i64 ((k : Int) + 1)) wr) := Lib.hid ⟨k + 1, ovt cur M j, by omega, rfl, by rw [HLJ.out, HCL.out], ovt_fits HCF.out HM.out.fits, by have := ovt_enc cur M j; rw [Nat.succ_mul]; omega, HQ.out⟩
            clear hq
            go_wp2_with fail
            exact ⟨HR.out, by simp only [intOf]; omega⟩
        · have hb : decide (j < N) = false := by simp; omega
          have HR : Hid (RelPa w0 b n g N c (encT M).length R (.int .i64 ((k : Int) + 1)) wr) := Lib.hid ⟨k + 1, ovt cur M j, by omega, rfl, by rw [HLJ.out, HCL.out], ovt_fits HCF.out HM.out.fits, by have := ovt_enc cur M j; rw [Nat.succ_mul]; omega, HQ.out⟩
          clear hq
          go_wp2_with fail
          exact ⟨HR.out, by simp only [intOf]; omega⟩
    · obtain rfl : k = 2 := by omega
      have H9 := Lib.hid (hp.ent (Pc.Ent.right _ _))
      clear hp hcl hcf
      go_wp2_with fail
      go_ret
      exact ⟨rfl, H9.out⟩
end Go.Proofs.YtnpokdbpmnkbjaaGreatDoor
