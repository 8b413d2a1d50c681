/- DumpOneForm, walked. | The reference's Decode. | What the reference reads is what the program reads. -/
import Derived.Test.YtmcekhgmmocajaaGreatDoorOf3
import Derived.Test.YtmcekhgmmocajaaGreatDoorWh
import Derived.Test.YtmcekhgmmocajaaGreatDoorSb
import Derived.Test.YtmcekhgmmocajaaGreatDoorRy
import Derived.Test.YtmcekhgmmocajaaGreatDoorEr
namespace Go.Proofs.YtmcekhgmmocajaaGreatDoor
open Go.RowKit Me

theorem dec_cases (b : List UInt8) (hb : b.length ≤ 100000000) : (∃ M, decP b = (M, 0) ∧ encP M = (b, 0) ∧ (∀ e ∈ M, Small e) ∧ M.length ≤ 100000000) ∨ decP b = ([], 210) := by
  unfold decP
  cases hr : readD b with
  | none => exact Or.inr rfl
  | some M =>
    obtain ⟨k1, k2⟩ := readD_of hr
    simp only
    by_cases he : encP M = (b, 0)
    · rw [if_pos he]
      refine Or.inl ⟨M, rfl, he, fun e hm => ?_, by omega⟩
      obtain ⟨f1, f2, f3, f4⟩ := k2 e hm
      exact ⟨f1, by omega, by omega, by omega⟩
    · rw [if_neg he]
      exact Or.inr rfl
theorem enc_cases (L : List EntP) : (encP L = (fullD L, 0)) ∨ ∃ er, er ≠ 0 ∧ encP L = ([], er) := by
  unfold encP
  split
  · exact Or.inr ⟨_, by decide, rfl⟩
  · split
    · exact Or.inr ⟨_, by decide, rfl⟩
    · split
      · exact Or.inr ⟨_, by decide, rfl⟩
      · exact Or.inl rfl
theorem enc_fits {L : List EntP} (h : encP L = (fullD L, 0)) : 19 + sizeL L ≤ 16777216 := by
  unfold encP at h
  split at h
  · simp at h
  · split at h
    · simp at h
    · split at h
      · simp at h
      · omega
theorem ento_nil {B : Nat} {w : World} {v : Value} (h : EntO B w v []) : ∃ A c, v = .slice A 0 c := by
  obtain ⟨A, c, rfl, _⟩ := h.ents
  exact ⟨A, c, rfl⟩
set_option maxRecDepth 100000 in
set_option maxHeartbeats 4000000 in
theorem oneform_any {w : World} (b : List UInt8) {vb : Value} (hb : Rd w vb (b.map byteV)) (L : List EntP) {v : Value} (h : Ents w v L) (hf : ∀ e ∈ L, e.Fits) (hz : ∀ e ∈ L, e.path.size ≤ 140737488355328 ∧ e.gid.size ≤ 140737488355328 ∧ e.data.length ≤ 140737488355328) (hT : Tabs w) :
    Calls Tryz.prog 3 #[vb, v] w fun x w' => x = .returned (.bool true) ∧ Mods [] w w' := by
  have H := Lib.hid h
  have HF := Lib.hid hf
  have HZ := Lib.hid hz
  have HB := Lib.hid hb
  have hbl : b.length ≤ 9223372036854775807 := by
    obtain ⟨A, c, -, h1, h2, -⟩ := hb
    rw [List.length_map] at h1
    unfold maxLen at h2
    omega
  obtain ⟨A, c, rfl, -⟩ := h
  obtain ⟨Ab, cb, rfl, -⟩ := hb
  rw [List.length_map] at *
  clear hz hf
  go_enter Tryz.func3, Tryz.ntmps3
  go_wp2_with fail
  refine (small_any w).mono ?_
  rintro x w1 ⟨v, rfl, hv, hm⟩
  have HE := Lib.hid (encode_any smallL hv small_small (by decide) (hT.mods hm))
  rw [small_enc] at HE
  have HM := Lib.hid hm
  obtain ⟨A1, c1, rfl, -⟩ := hv
  clear hm
  go_wp2_with fail
  refine HE.out.mono ?_
  rintro x w2 ⟨v, rfl, ho, hm⟩
  have HM2 := Lib.hid (HM.out.trans hm (by simp))
  have HD := Lib.hid (decode_any (fullD smallL) (Rd.of_own ho) (by rw [fullD_length, small_size]; omega) (hT.mods HM2.out))
  rw [dec_enc small_enc small_small (by decide)] at HD
  obtain ⟨A2, c2, rfl⟩ := own_ctor ho
  clear ho hm HE
  go_wp2_with fail
  refine HD.out.mono ?_
  rintro x w3 ⟨v, rfl, he, hm⟩
  have HM3 := Lib.hid (HM2.out.trans hm (by simp))
  have HS := Lib.hid (fun w' (hw : Mods [] w3 w') => (he.mods0 hw).ents)
  obtain ⟨A3, c3, rfl, -⟩ := he.ents
  clear he hm HD
  go_wp2_with fail
  refine (small_any w3).mono ?_
  rintro x w4 ⟨v, rfl, hv, hm⟩
  have HQ := Lib.hid (same_any smallL (HS.out w4 hm) hv)
  have HM4 := Lib.hid (HM3.out.trans hm (by simp))
  obtain ⟨A4, c4, rfl, -⟩ := hv
  clear hm HS
  go_wp2_with fail
  refine HQ.out.mono ?_
  rintro x w5 ⟨rfl, hm⟩
  have HM5 := Lib.hid (HM4.out.trans hm (by simp))
  clear hm HQ HM HM2 HM3 HM4
  by_cases hbig : 67108864 < b.length
  · have hbig2 : (67108864 : Int) < (b.length : Int) := by omega
    go_wp2_with fail
    go_ret
    exact ⟨rfl, HM5.out⟩
  have hbig2 : ¬ (67108864 : Int) < (b.length : Int) := by omega
  have HW := Lib.hid (weight_any L (H.out.mods HM5.out) HZ.out)
  go_wp2_with fail
  refine HW.out.mono ?_
  rintro x w6 ⟨⟨q, rfl, hq⟩, hm⟩
  have HM6 := Lib.hid (HM5.out.trans hm (by simp))
  clear hm HW
  by_cases hqb : 67108864 < q
  · have hqb2 : (67108864 : Int) < (q : Int) := by omega
    go_wp2_with fail
    go_ret
    exact ⟨rfl, HM6.out⟩
  have hqb2 : ¬ (67108864 : Int) < (q : Int) := by omega
  obtain ⟨q1, q2⟩ := hq (by omega)
  have HSM : Hid (∀ e ∈ L, Small e) := Lib.hid (fun e he => ⟨HF.out e he, by have := q1 e he; omega, by have := q1 e he; omega, by have := q1 e he; omega⟩)
  have HD := Lib.hid (decode_any b (by have := HB.out.mods HM6.out (by simp); exact this) (by omega) (hT.mods HM6.out))
  have HC := Lib.hid (dec_cases b (by omega))
  generalize decP b = r at *
  obtain ⟨M, er⟩ := r
  clear q1 HZ HF hq
  go_wp2_with fail
  refine HD.out.mono ?_
  rintro x w7 ⟨v7, rfl, he, hm⟩
  have HM7 := Lib.hid (HM6.out.trans hm (by simp))
  have HB7 := Lib.hid (HB.out.mods HM7.out (by simp))
  have KB := fun w' (hw : Mods [] w7 w') => conv_rd (HB7.out.mods hw (by simp))
  obtain ⟨A7, c7, hv7⟩ : ∃ A c, v7 = .slice A M.length c := by
    obtain ⟨A, c, e, -⟩ := he.ents
    exact ⟨A, c, e⟩
  clear HD hm
  go_upto_if 53 with fail
  go_cut [6, 7, 10, 11] from 54 (fun _ _ _ _ w' => Mods [] w w')
  case first =>
    rcases HC.out with ⟨M', hd, henc, hsm, hml⟩ | hd
    · obtain ⟨rfl, rfl⟩ := Prod.mk.inj hd
      have HE := Lib.hid (encode_any M he.ents hsm hml (hT.mods HM7.out))
      rw [henc] at HE
      obtain ⟨A7, c7, rfl, -⟩ := he.ents
      clear he hd henc hsm HC
      go_wp2_with fail
      refine HE.out.mono ?_
      rintro x w8 ⟨v8, rfl, ho, hm⟩
      have KV := conv_rd (Rd.of_own ho)
      have KB8 := KB w8 hm
      have HM8 := Lib.hid (HM7.out.trans hm (by simp))
      obtain ⟨A8, c8, rfl⟩ := own_ctor ho
      clear ho hm HE
      go_wp2_with first | rfl | exact KV | exact KB8 | fail
      go_meet
      case rel => exact HM8.out
    · obtain ⟨rfl, rfl⟩ := Prod.mk.inj hd
      obtain ⟨A7, c7, rfl⟩ := ento_nil he
      clear he hd HC
      go_wp2_with fail
      go_meet
      case rel => exact HM7.out
  case rest =>
    clear HC
    have HM8 := Lib.hid hcut
    clear HB7 HB HM7 KB hcut
    have HC := Lib.hid (copied_any L (H.out.mods HM8.out) (fun e he => (HSM.out e he).data) (by omega))
    go_wp2_with fail
    refine HC.out.mono ?_
    rintro x w9 ⟨v9, rfl, he, hm⟩
    have HR := Lib.hid (rencode_any L he.ents HSM.out (by omega))
    rw [encPR_eq] at HR
    have HM9 := Lib.hid (HM8.out.trans hm (by simp))
    obtain ⟨A9, c9, rfl, -⟩ := he.ents
    clear he hm HC
    go_wp2_with fail
    refine HR.out.mono ?_
    rintro x wa ⟨va, rfl, ho, hm⟩
    have HMa := Lib.hid (HM9.out.trans hm (by simp))
    obtain ⟨Aa, ca, rfl⟩ := own_ctor ho
    have HC := Lib.hid (copied_any L (H.out.mods HMa.out) (fun e he => (HSM.out e he).data) (by omega))
    clear ho hm HR HM9 HM8
    go_wp2_with fail
    refine HC.out.mono ?_
    rintro x wb ⟨vb, rfl, he, hm⟩
    have HMb := Lib.hid (HMa.out.trans hm (by simp))
    have HE := Lib.hid (encode_any L he.ents HSM.out (by omega) (hT.mods HMb.out))
    obtain ⟨Ab, cb, rfl, -⟩ := he.ents
    clear he hm HC HMa
    go_wp2_with fail
    refine HE.out.mono ?_
    rintro x wc ⟨vc, rfl, ho, hm⟩
    have HMc := Lib.hid (HMb.out.trans hm (by simp))
    clear HE HMb
    rcases enc_cases L with henc | ⟨er, her, henc⟩
    · rw [henc] at ho ⊢
      have HD := Lib.hid (decode_any (fullD L) (Rd.of_own ho) (by rw [fullD_length]; have := enc_fits henc; omega) (hT.mods HMc.out))
      rw [dec_enc henc HSM.out (by omega)] at HD
      obtain ⟨Ac, cc, rfl⟩ := own_ctor ho
      clear ho hm
      go_wp2_with fail
      refine HD.out.mono ?_
      rintro x wd ⟨vd, rfl, he, hm⟩
      have HMd := Lib.hid (HMc.out.trans hm (by simp))
      have HS := Lib.hid (same_any L he.ents (H.out.mods HMd.out))
      obtain ⟨Ad, cd, rfl, -⟩ := he.ents
      clear he hm HD HMc
      go_wp2_with fail
      refine HS.out.mono ?_
      rintro x we ⟨rfl, hm⟩
      have HMe := Lib.hid (HMd.out.trans hm (by simp))
      clear hm HS HMd
      go_wp2_with fail
      go_ret
      exact ⟨rfl, HMe.out⟩
    · rw [henc] at ho ⊢
      obtain ⟨Ac, cc, rfl⟩ := own_ctor ho
      have her2 : (((er : Int) != 0) = true) := bne_iff_ne.2 (by omega)
      clear ho hm
      go_wp2_with fail
      go_ret
      exact ⟨rfl, HMc.out⟩
end Go.Proofs.YtmcekhgmmocajaaGreatDoor
namespace Go.Proofs.YtmcekhgmmocajaaGreatDoor
open Go.RowKit Me

/-- So many entries from a place on. -/
def rpars (b : List UInt8) : Nat → Nat → List EntP → Option (List EntP)
  | 0, _, M => some M
  | n + 1, a, M => match entryP b a with
    | none => none
    | some (e, q) => rpars b n q (M ++ [e])
/-- What the reference reads. -/
def decR (b : List UInt8) : List EntP × Nat :=
  if b.length < 19 then ([], 210)
  else match rpars b (getN b 7 4) 11 [] with
    | none => ([], 210)
    | some L => if encP L = (b, 0) then (L, 0) else ([], 210)
theorem counted_ge {b : List UInt8} {a : Int} {wd : Nat} {l : List UInt8} {n : Nat} (h : countedP b a wd = some (l, n)) : 0 ≤ a ∧ a.toNat + wd + l.length = n ∧ n ≤ b.length := by
  have hn := counted_le h
  unfold countedP at h
  split at h
  · cases h
  · rename_i h0
    split at h
    · cases h
    · rename_i h1
      simp only [Option.some.injEq, Prod.mk.injEq] at h
      obtain ⟨rfl, rfl⟩ := h
      rw [List.length_take, List.length_drop]
      omega
theorem entry_facts {b : List UInt8} (hb : b.length ≤ 100000000) {a : Nat} {e : EntP} {q : Nat} (h : entryP b a = some (e, q)) : Small e ∧ a + 16 ≤ q ∧ q ≤ b.length := by
  unfold entryP at h
  split at h
  · cases h
  · rename_i p n h1
    split at h
    · cases h
    · split at h
      · cases h
      · rename_i g m h2
        split at h
        · cases h
        · rename_i d z h3
          obtain ⟨-, k1, -⟩ := counted_ge h1
          obtain ⟨-, k2, -⟩ := counted_ge h2
          obtain ⟨-, k3, k4⟩ := counted_ge h3
          simp only [Option.some.injEq, Prod.mk.injEq] at h
          obtain ⟨rfl, rfl⟩ := h
          have m1 : getN b n 4 < 4294967296 := getN_lt b 4 n
          have m2 : getN b (n + 4) 4 < 4294967296 := getN_lt b 4 (n + 4)
          simp only [Int.toNat_natCast] at k1 k2 k3
          refine ⟨⟨⟨m1, m2⟩, ?_, ?_, ?_⟩, by omega, k4⟩
          · show p.toArray.size ≤ 100000000
            rw [List.size_toArray]; omega
          · show g.toArray.size ≤ 100000000
            rw [List.size_toArray]; omega
          · show d.length ≤ 100000000
            omega
theorem bytes_ne {a b : List UInt8} (h : ¬ a = b) : ((⟨a.toArray⟩ : ByteArray).toList == (⟨b.toArray⟩ : ByteArray).toList) = false := by
  rw [beq_eq_false_iff_ne]
  intro e
  rw [Lib.toList_data, Lib.toList_data] at e
  exact h (by simpa using e)
def RelRd2 (w : World) (b : List UInt8) (R : Option (List EntP)) (v a n : Value) (wr : World) : Prop :=
  ∃ (k q : Nat) (M : List EntP), n = .int .i64 (k : Int) ∧ a = .int .i64 (q : Int) ∧ k < 4294967296 ∧ 16 * M.length ≤ q ∧ q ≤ b.length ∧ (∀ e ∈ M, Small e) ∧ EntO w.heap.size wr v M ∧ R = rpars b k q M ∧ Mods [] w wr
set_option maxHeartbeats 2000000 in
set_option maxRecDepth 100000 in
theorem rdecode_any {w : World} (b : List UInt8) {v : Value} (h : Rd w v (b.map byteV)) (hb : b.length ≤ 100000000) :
    Calls Tryz.prog 74 #[v] w (DecPost w (decR b)) := by
  have H := Lib.hid h
  have HQ := Lib.hid (show decR b = if b.length < 19 then ([], 210)
    else match rpars b (getN b 7 4) 11 [] with
      | none => ([], 210)
      | some L => if encP L = (b, 0) then (L, 0) else ([], 210) from rfl)
  obtain ⟨A, c, rfl, -⟩ := h
  rw [List.length_map] at *
  obtain ⟨i0, hi, hz0, hz1, hz2⟩ := info_parts info38z
  go_enter Tryz.func74, Tryz.ntmps74
  by_cases hs : b.length < 19
  · have hs2 : (b.length : Int) < 19 := by omega
    go_wp2_with fail
    go_ret2
    rw [HQ.out, if_pos hs]
    exact ⟨_, rfl, EntO.nil _ _, Mods.refl _ _⟩
  have hs2 : ¬ (b.length : Int) < 19 := by omega
  rw [if_neg hs] at HQ
  have HG := Lib.hid (get_any b H.out 7 4 (by omega) (by decide) (by decide))
  have hm1 : getN b 7 4 < 4294967296 := getN_lt b 4 7
  generalize getN b 7 4 = n0 at *
  obtain ⟨R, hR⟩ : ∃ R, rpars b n0 11 [] = R := ⟨_, rfl⟩
  rw [hR] at HQ
  have HR := Lib.hid hR
  clear hR
  go_wp2_with fail
  refine HG.out.mono ?_
  rintro x w1 ⟨rfl, rfl⟩
  clear HG
  go_wp2_with fail
  go_loopw [4, 5, 6] (fun v a n wr => RelRd2 w1 b R v a n wr) (fun _ _ n _ => (intOf n).toNat)
  case atStart => exact ⟨n0, 11, [], rfl, rfl, hm1, by simp, by omega, by simp, EntO.nil _ _, HR.out.symm, Mods.refl _ _⟩
  case round =>
    obtain ⟨k, q, M, rfl, rfl, hk, h16, hq, hsm, ho, hr, hm⟩ := hrel
    have HO := Lib.hid ho
    have HMr := Lib.hid hm
    have HRr := Lib.hid hr
    have HSM := Lib.hid hsm
    clear ho hm hr hsm
    rcases k with _ | k
    · obtain ⟨V0, hV0, hrow0, hdat0, -⟩ := HO.out
      obtain ⟨Au, cu, rfl⟩ := own_ctor hrow0
      clear V0 hV0 hrow0 hdat0
      have hR2 : R = some M := HRr.out
      subst hR2
      have HEN := Lib.hid (rencode_any M HO.out.ents HSM.out (by omega))
      rw [encPR_eq] at HEN
      simp only at HQ
      generalize encP M = eM at *
      obtain ⟨bM, er⟩ := eM
      go_wp2_with fail
      refine HEN.out.mono ?_
      rintro x w3 ⟨v3, rfl, ho3, hm3⟩
      have KV := conv_rd (Rd.of_own ho3)
      have KB := conv_rd (H.out.mods (HMr.out.trans hm3 (by simp)) (by simp))
      have HM3 := Lib.hid (HMr.out.trans hm3 (by simp))
      have HO3 := Lib.hid (HO.out.mods0 hm3)
      obtain ⟨A3, c3, rfl⟩ := own_ctor ho3
      clear ho3 hm3 HEN HO
      by_cases he : er = 0
      · subst he
        by_cases hbb : bM = b
        · subst hbb
          rw [if_pos rfl] at HQ
          go_wp2_with first | rfl | exact KV | exact KB | fail
          go_ret2
          rw [HQ.out]
          exact ⟨_, rfl, HO3.out, HM3.out⟩
        · rw [if_neg (by simp [hbb])] at HQ
          have hne : (bM == b) = false := by simpa using hbb
          have hne2 := bytes_ne hbb
          go_wp2_with first | rfl | exact KV | exact KB | fail
          go_ret2
          rw [HQ.out]
          exact ⟨_, rfl, EntO.nil _ _, HM3.out⟩
      · have hne : (((er : Int) != 0) = true) := bne_iff_ne.2 (by omega)
        rw [if_neg (by simp [he])] at HQ
        go_wp2_with fail
        go_ret2
        rw [HQ.out]
        exact ⟨_, rfl, EntO.nil _ _, HM3.out⟩
    · cases hen : entryP b q with
      | none =>
        have hR2 : R = none := by
          rw [HRr.out]
          unfold rpars
          rw [hen]
        subst hR2
        simp only at HQ
        have HEY := Lib.hid (rentry_any b (H.out.mods HMr.out (by simp)) hb q (by omega))
        rw [hen] at HEY
        obtain ⟨V0, hV0, hrow0, hdat0, -⟩ := HO.out
        obtain ⟨Au, cu, rfl⟩ := own_ctor hrow0
        clear V0 hV0 hrow0 hdat0 hen
        go_wp2_with fail
        refine HEY.out.mono ?_
        rintro x w3 ⟨e, Ae, ne, ce, rfl, hm3⟩
        have HM3 := Lib.hid (HMr.out.trans hm3 (by simp))
        clear hm3 HEY
        unfold entV
        go_wp2_with fail
        go_ret2
        rw [HQ.out]
        exact ⟨_, rfl, EntO.nil _ _, HM3.out.alloc _⟩
      | some r =>
        obtain ⟨e, q2⟩ := r
        obtain ⟨hse, hq2, hq3⟩ := entry_facts hb hen
        have hR2 : R = rpars b k q2 (M ++ [e]) := by
          rw [HRr.out]
          show (match entryP b q with
            | none => none
            | some (e, q) => rpars b k q (M ++ [e])) = _
          rw [hen]
        have HR2 := Lib.hid hR2
        have HSE := Lib.hid hse
        have HEY := Lib.hid (rentry_any b (H.out.mods HMr.out (by simp)) hb q (by omega))
        rw [hen] at HEY
        obtain ⟨V0, hV0, hrow0, hdat0, -⟩ := HO.out
        obtain ⟨Au, cu, rfl⟩ := own_ctor hrow0
        clear V0 hV0 hrow0 hdat0 hen hR2 HRr hse
        go_wp2_with fail
        refine HEY.out.mono ?_
        rintro x w3 ⟨vd, rfl, hod, hm3⟩
        obtain ⟨Ad, cd, rfl⟩ := own_ctor hod
        have hdl := hod.1
        unfold entV
        have HO3 := Lib.hid (HO.out.mods0 hm3)
        have HEB3 := Lib.hid (HO.out.toB.mods0 hm3)
        have HVD := Lib.hid (fun k hk => (hod.lt k hk).1)
        have HW3 := Lib.hid (ownsRow_base hod HMr.out.size)
        have HM3 := Lib.hid (HMr.out.trans hm3 (by simp))
        have hmA : Mods [] w3 (w3.alloc (.cells #[.string e.path, .int .u32 (e.mode : Int), .int .u32 (e.mtime : Int), .string e.gid, .slice Ad e.data.length cd] 47)) := (Mods.refl [] w3).alloc _
        have HXA := Lib.hid (heap_alloc_new w3 (.cells #[.string e.path, .int .u32 (e.mode : Int), .int .u32 (e.mtime : Int), .string e.gid, .slice Ad e.data.length cd] 47))
        have HOA := Lib.hid (HO3.out.mods0 hmA)
        have HWA := Lib.hid (ownsRow_mods HW3.out hmA (by simp))
        have HMA := Lib.hid (HM3.out.trans hmA (by simp))
        obtain ⟨V, hV, hrow, hdat, hnd, htop⟩ := HEB3.out.mods0 hmA
        have HND := Lib.hid hnd
        have HNE := Lib.hid (fun k hk (hk2 : k ∈ blksV V) => (absurd (htop k hk2) (Nat.not_lt.2 (HVD.out k hk)) : False))
        have HROW := Lib.hid hrow
        have HDAT := Lib.hid hdat
        have hsA := HMA.out.size
        clear hod hm3 HEY HO hmA hrow hdat HO3 HW3 HM3 HEB3 HVD hnd htop
        go_wp2_with (first
          | (refine wpList_load_row rfl 47 _ rfl w3.heap.size rfl 47 #[.string e.path, .int .u32 (e.mode : Int), .int .u32 (e.mtime : Int), .string e.gid, .slice Ad e.data.length cd] (0, 0) _ HXA.out Tryz.underlying47 rfl info38 ?_)
          | (at_builtin; go_must (refine wpList_app _ rfl _ _ 23 23 rfl w1.heap.size 47 i0 (.agg #[.string ⟨#[]⟩, .int .u32 0, .int .u32 0, .string ⟨#[]⟩, .slice none 0 0]) 5 64 Tryz.underlying23 hi hz0 hz1 hz2 rfl _ _ _ rfl (HROW.out.alloc _) _ 1 (entC e (.slice Ad e.data.length cd)) rfl ?c1 ?c2 ?c3 ?c4 ?_)))
        case c1 =>
          have := src_ent (w3.alloc (.cells #[.string e.path, .int .u32 (e.mode : Int), .int .u32 (e.mtime : Int), .string e.gid, .slice Ad e.data.length cd] 47)) e (.slice Ad e.data.length cd) rfl
          rw [World.size_alloc] at this
          exact this
        case c2 => unfold maxLen; omega
        case c3 => omega
        case c4 => simp at hsA ⊢; omega
        intro v' w4 hown hgrow hat
        have hm4 : Mods (Value.slice Au M.length cu).ownBlock.toList _ w4 := ((Mods.refl _ _).alloc _).grown hgrow (fun x hx => Or.inl (by rw [hx]; simp))
        have HEE := Lib.hid (EntO.snoc (e := e) hV HROW.out HDAT.out HWA.out hown hm4 HND.out HNE.out)
        have HM4 := Lib.hid (HMA.out.trans hm4 (fun x hx => Or.inr (HOA.out.own x (by simpa using hx)).1))
        obtain ⟨A9, c9, rfl⟩ := own_ctor hown
        clear hown hgrow hat hm4 HROW HDAT HOA HWA HMA HXA
        go_wp2_with fail
        refine ⟨⟨k, q2, M ++ [e], ?_, rfl, by omega, by rw [List.length_append]; simp; omega, hq3, ?_, HEE.out, HR2.out, HM4.out⟩, by simp only [intOf]; omega⟩
        · congr 1
        · intro x hx
          rcases List.mem_append.1 hx with hx | hx
          · exact HSM.out x hx
          · simp at hx
            subst hx
            exact HSE.out
end Go.Proofs.YtmcekhgmmocajaaGreatDoor
namespace Go.Proofs.YtmcekhgmmocajaaGreatDoor
open Go.RowKit Me

theorem getN_at : ∀ (k : Nat) {b : List UInt8} {a : Nat} {l r : List UInt8}, b.drop a = l ++ r → l.length = k → getN b a k = val l
  | 0, b, a, l, r, h, hl => by
    obtain rfl : l = [] := List.eq_nil_of_length_eq_zero hl
    rfl
  | k + 1, b, a, [], r, h, hl => by simp at hl
  | k + 1, b, a, x :: l, r, h, hl => by
    have h1 : b[a]? = some x := by
      have := congrArg (·[0]?) h
      simpa [List.getElem?_drop] using this
    have h2 : b.drop (a + 1) = l ++ r := by
      have := congrArg (List.drop 1) h
      simpa [List.drop_drop, Nat.add_comm] using this
    show (b.getD a 0).toNat + 256 * getN b (a + 1) k = x.toNat + 256 * val l
    rw [getN_at k h2 (by simpa using hl), List.getD_eq_getElem?_getD, h1]
    rfl
theorem drop_on {b : List UInt8} {a : Nat} {l r : List UInt8} (h : b.drop a = l ++ r) : b.drop (a + l.length) = r := by
  rw [← List.drop_drop, h, List.drop_left]
theorem drop_len {b : List UInt8} {a : Nat} {l r : List UInt8} (h : b.drop a = l ++ r) (ha : a ≤ b.length) : a + l.length ≤ b.length := by
  have := congrArg List.length h
  rw [List.length_drop, List.length_append] at this
  omega
theorem counted_at {b : List UInt8} {a wd : Nat} {l r : List UInt8} (h : b.drop a = le l.length wd ++ (l ++ r)) (ha : a ≤ b.length) (hl : l.length < 256 ^ wd) : countedP b (a : Int) wd = some (l, a + wd + l.length) := by
  have h1 := getN_at wd h (le_length _ _)
  rw [val_le_of hl] at h1
  have h2 := drop_on h
  rw [le_length] at h2
  have h3 := drop_len h ha
  rw [le_length] at h3
  have h4 := drop_len h2 h3
  unfold countedP
  rw [Int.toNat_natCast, h1, if_neg (by omega), if_neg (by omega), h2, List.take_left]
theorem entry_at {b : List UInt8} {a : Nat} {e : EntP} {r : List UInt8} (hf : e.Fits) (hp : e.path.size < 65536) (hg : e.gid.size < 65536) (hd : e.data.length < 4294967296) (h : b.drop a = e.enc ++ r) (ha : a ≤ b.length) :
    entryP b a = some (e, a + e.enc.length) ∧ b.drop (a + e.enc.length) = r ∧ a + e.enc.length ≤ b.length := by
  refine ⟨?_, drop_on h, drop_len h ha⟩
  have hlen := e.enc_length
  have hpl : e.path.data.toList.length = e.path.size := by simp
  have hgl : e.gid.data.toList.length = e.gid.size := by simp
  unfold EntP.enc txt at h
  simp only [List.append_assoc] at h
  have c1 := counted_at h ha (by rw [hpl]; exact hp)
  have b1 := drop_len h ha
  have h1 := drop_on h
  rw [le_length] at h1 b1
  have b2 := drop_len h1 b1
  have h2 := drop_on h1
  have n1 := getN_at 4 h2 (le_length _ _)
  rw [val_le_of hf.mode] at n1
  have b3 := drop_len h2 b2
  have h3 := drop_on h2
  rw [le_length] at h3 b3
  have n2 := getN_at 4 h3 (le_length _ _)
  rw [val_le_of hf.mtime] at n2
  have b4 := drop_len h3 b3
  have h4 := drop_on h3
  rw [le_length] at h4 b4
  have c2 := counted_at h4 b4 (by rw [hgl]; exact hg)
  have b5 := drop_len h4 b4
  have h5 := drop_on h4
  rw [le_length] at h5 b5
  have b6 := drop_len h5 b5
  have h6 := drop_on h5
  have c3 := counted_at h6 b6 hd
  have hsz : e.enc.length = 16 + e.path.size + e.gid.size + e.data.length := hlen
  have hpe : (⟨e.path.data.toList.toArray⟩ : ByteArray) = e.path := data_inj (by simp)
  have hge : (⟨e.gid.data.toList.toArray⟩ : ByteArray) = e.gid := data_inj (by simp)
  clear h h1 h2 h3 h4 h5 h6
  generalize e.path.data.toList = P at *
  generalize e.gid.data.toList = G at *
  rw [show a + 2 + P.length + 4 + 4 = a + 2 + P.length + 8 by omega] at c2 c3 b6
  unfold entryP
  rw [c1]
  simp only
  rw [if_neg (by omega), c2]
  simp only
  rw [c3]
  simp only [n1, n2, hpe, hge, Option.some.injEq, Prod.mk.injEq, true_and]
  omega
theorem rpars_at : ∀ (L : List EntP) {b : List UInt8} {a : Nat} {r : List UInt8} (M : List EntP), (∀ e ∈ L, e.Fits ∧ e.path.size < 65536 ∧ e.gid.size < 65536 ∧ e.data.length < 4294967296) → b.drop a = encL L ++ r → a ≤ b.length → rpars b L.length a M = some (M ++ L)
  | [], b, a, r, M, _, _, _ => by simp [rpars]
  | e :: L, b, a, r, M, hf, h, ha => by
    obtain ⟨f1, f2, f3, f4⟩ := hf e (by simp)
    have h0 : b.drop a = e.enc ++ (encL L ++ r) := by
      rw [h]
      show (e.enc ++ encL L) ++ r = _
      rw [List.append_assoc]
    obtain ⟨h1, h2, h3⟩ := entry_at f1 f2 f3 f4 h0 ha
    show (match entryP b a with
      | none => none
      | some (e, q) => rpars b L.length q (M ++ [e])) = _
    rw [h1]
    show rpars b L.length (a + e.enc.length) (M ++ [e]) = _
    rw [rpars_at L (M ++ [e]) (fun x hx => hf x (by simp [hx])) h2 h3, List.append_assoc]
    rfl
theorem may_sizes {e : EntP} (h : mayE e = true) : e.path.size < 65536 ∧ e.gid.size < 65536 ∧ e.data.length < 4294967296 := by
  unfold mayE gidOk at h
  simp only [Bool.and_eq_true, decide_eq_true_eq] at h
  omega
/-- What has been written is read by the reference. -/
theorem rpars_full {L : List EntP} (h : encP L = (fullD L, 0)) (hf : ∀ e ∈ L, Small e) (hl : L.length ≤ 100000000) : (fullD L).length ≥ 19 ∧ rpars (fullD L) (getN (fullD L) 7 4) 11 [] = some L := by
  have hm : ∀ e ∈ L, mayE e = true := by
    have h0 := h
    unfold encP at h0
    split at h0
    · simp at h0
    · rename_i h1
      simp only [not_or] at h1
      have hall : L.all mayE = true := by simpa using h1.2
      exact fun e he => List.all_eq_true.1 hall e he
  have hlen := fullD_length L
  have h7 : (fullD L).drop 7 = le L.length 4 ++ (encL L ++ le (sumD (bodyD L)) 8) := by
    show ((headD ++ le L.length 4 ++ encL L) ++ le (sumD (bodyD L)) 8).drop 7 = _
    rw [List.append_assoc, List.append_assoc]
    rfl
  have h11 := drop_on h7
  rw [le_length] at h11
  have hn := getN_at 4 h7 (le_length _ _)
  rw [val_le_of (show L.length < 256 ^ 4 by omega)] at hn
  refine ⟨by omega, ?_⟩
  rw [hn, rpars_at L [] (fun e he => ⟨(hf e he).toFits, may_sizes (hm e he)⟩) h11 (by omega)]
  rfl
theorem decR_small {b : List UInt8} (hb : b.length ≤ 100000000) {L : List EntP} : ∀ {k a : Nat} {M : List EntP}, rpars b k a M = some L → 16 * M.length ≤ a → a ≤ b.length → (∀ e ∈ M, Small e) → (∀ e ∈ L, Small e) ∧ 16 * L.length ≤ b.length
  | 0, a, M, h, h16, ha, hs => by
    simp only [rpars, Option.some.injEq] at h
    subst h
    exact ⟨hs, by omega⟩
  | k + 1, a, M, h, h16, ha, hs => by
    unfold rpars at h
    cases he : entryP b a with
    | none => rw [he] at h; cases h
    | some r =>
      obtain ⟨e, q⟩ := r
      rw [he] at h
      obtain ⟨f1, f2, f3⟩ := entry_facts hb he
      refine decR_small hb h (by rw [List.length_append]; simp; omega) f3 fun x hx => ?_
      rcases List.mem_append.1 hx with hx | hx
      · exact hs x hx
      · simp at hx
        subst hx
        exact f1
/-- The reference reads what the program reads. -/
theorem decR_eq {b : List UInt8} (hb : b.length ≤ 100000000) : decR b = decP b := by
  rcases dec_cases b hb with ⟨M, h1, h2, h3, h4⟩ | h1
  · have h5 : encP M = (fullD M, 0) := by
      rcases enc_cases M with h | ⟨er, he, h⟩
      · exact h
      · rw [h] at h2
        simp at h2
        exact absurd h2.2 he
    have h6 : b = fullD M := by
      rw [h5] at h2
      simpa using h2.symm
    obtain ⟨k1, k2⟩ := rpars_full h5 h3 h4
    rw [h1]
    unfold decR
    rw [h6, if_neg (by omega), k2]
    simp only
    rw [if_pos h5]
  · rw [h1]
    unfold decR
    split
    · rfl
    · rename_i hl
      cases hp : rpars b (getN b 7 4) 11 [] with
      | none => rfl
      | some L =>
        simp only
        split
        · rename_i he
          exfalso
          obtain ⟨f1, f2⟩ := decR_small hb hp (by simp) (by omega) (by simp)
          have := dec_enc he f1 (by omega)
          rw [h1] at this
          simp at this
        · rfl
end Go.Proofs.YtmcekhgmmocajaaGreatDoor
