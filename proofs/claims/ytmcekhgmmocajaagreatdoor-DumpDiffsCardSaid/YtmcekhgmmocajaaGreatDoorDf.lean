/- DumpOneForm, walked. -/
import Derived.Test.YtmcekhgmmocajaaGreatDoorOf3
import Derived.Test.YtmcekhgmmocajaaGreatDoorWh
import Derived.Test.YtmcekhgmmocajaaGreatDoorSb
namespace Go.Proofs.YtmcekhgmmocajaaGreatDoor
open Go.RowKit Me

theorem dec_cases (b : List UInt8) (hb : b.length ≤ 100000000) : (∃ M, decP b = (M, 0) ∧ encP M = (b, 0) ∧ (∀ e ∈ M, Small e) ∧ M.length ≤ 100000000) ∨ decP b = ([], 210) := by
  unfold decP
  cases hr : readD b with
  | none => exact Or.inr rfl
  | some M =>
    obtain ⟨k1, k2⟩ := readD_of hr
    simp only
    by_cases he : encP M = (b, 0)
    · rw [if_pos he]
      refine Or.inl ⟨M, rfl, he, fun e hm => ?_, by omega⟩
      obtain ⟨f1, f2, f3, f4⟩ := k2 e hm
      exact ⟨f1, by omega, by omega, by omega⟩
    · rw [if_neg he]
      exact Or.inr rfl
theorem enc_cases (L : List EntP) : (encP L = (fullD L, 0)) ∨ ∃ er, er ≠ 0 ∧ encP L = ([], er) := by
  unfold encP
  split
  · exact Or.inr ⟨_, by decide, rfl⟩
  · split
    · exact Or.inr ⟨_, by decide, rfl⟩
    · split
      · exact Or.inr ⟨_, by decide, rfl⟩
      · exact Or.inl rfl
theorem enc_fits {L : List EntP} (h : encP L = (fullD L, 0)) : 19 + sizeL L ≤ 16777216 := by
  unfold encP at h
  split at h
  · simp at h
  · split at h
    · simp at h
    · split at h
      · simp at h
      · omega
theorem ento_nil {B : Nat} {w : World} {v : Value} (h : EntO B w v []) : ∃ A c, v = .slice A 0 c := by
  obtain ⟨A, c, rfl, _⟩ := h.ents
  exact ⟨A, c, rfl⟩
set_option maxRecDepth 100000 in
set_option maxHeartbeats 4000000 in
theorem oneform_any {w : World} (b : List UInt8) {vb : Value} (hb : Rd w vb (b.map byteV)) (L : List EntP) {v : Value} (h : Ents w v L) (hf : ∀ e ∈ L, e.Fits) (hz : ∀ e ∈ L, e.path.size ≤ 140737488355328 ∧ e.gid.size ≤ 140737488355328 ∧ e.data.length ≤ 140737488355328) (hT : Tabs w) :
    Calls Tryz.prog 3 #[vb, v] w fun x w' => x = .returned (.bool true) ∧ Mods [] w w' := by
  have H := Lib.hid h
  have HF := Lib.hid hf
  have HZ := Lib.hid hz
  have HB := Lib.hid hb
  have hbl : b.length ≤ 9223372036854775807 := by
    obtain ⟨A, c, -, h1, h2, -⟩ := hb
    rw [List.length_map] at h1
    unfold maxLen at h2
    omega
  obtain ⟨A, c, rfl, -⟩ := h
  obtain ⟨Ab, cb, rfl, -⟩ := hb
  rw [List.length_map] at *
  clear hz hf
  go_enter Tryz.func3, Tryz.ntmps3
  go_wp2_with fail
  refine (small_any w).mono ?_
  rintro x w1 ⟨v, rfl, hv, hm⟩
  have HE := Lib.hid (encode_any smallL hv small_small (by decide) (hT.mods hm))
  rw [small_enc] at HE
  have HM := Lib.hid hm
  obtain ⟨A1, c1, rfl, -⟩ := hv
  clear hm
  go_wp2_with fail
  refine HE.out.mono ?_
  rintro x w2 ⟨v, rfl, ho, hm⟩
  have HM2 := Lib.hid (HM.out.trans hm (by simp))
  have HD := Lib.hid (decode_any (fullD smallL) (Rd.of_own ho) (by rw [fullD_length, small_size]; omega) (hT.mods HM2.out))
  rw [dec_enc small_enc small_small (by decide)] at HD
  obtain ⟨A2, c2, rfl⟩ := own_ctor ho
  clear ho hm HE
  go_wp2_with fail
  refine HD.out.mono ?_
  rintro x w3 ⟨v, rfl, he, hm⟩
  have HM3 := Lib.hid (HM2.out.trans hm (by simp))
  have HS := Lib.hid (fun w' (hw : Mods [] w3 w') => (he.mods0 hw).ents)
  obtain ⟨A3, c3, rfl, -⟩ := he.ents
  clear he hm HD
  go_wp2_with fail
  refine (small_any w3).mono ?_
  rintro x w4 ⟨v, rfl, hv, hm⟩
  have HQ := Lib.hid (same_any smallL (HS.out w4 hm) hv)
  have HM4 := Lib.hid (HM3.out.trans hm (by simp))
  obtain ⟨A4, c4, rfl, -⟩ := hv
  clear hm HS
  go_wp2_with fail
  refine HQ.out.mono ?_
  rintro x w5 ⟨rfl, hm⟩
  have HM5 := Lib.hid (HM4.out.trans hm (by simp))
  clear hm HQ HM HM2 HM3 HM4
  by_cases hbig : 67108864 < b.length
  · have hbig2 : (67108864 : Int) < (b.length : Int) := by omega
    go_wp2_with fail
    go_ret
    exact ⟨rfl, HM5.out⟩
  have hbig2 : ¬ (67108864 : Int) < (b.length : Int) := by omega
  have HW := Lib.hid (weight_any L (H.out.mods HM5.out) HZ.out)
  go_wp2_with fail
  refine HW.out.mono ?_
  rintro x w6 ⟨⟨q, rfl, hq⟩, hm⟩
  have HM6 := Lib.hid (HM5.out.trans hm (by simp))
  clear hm HW
  by_cases hqb : 67108864 < q
  · have hqb2 : (67108864 : Int) < (q : Int) := by omega
    go_wp2_with fail
    go_ret
    exact ⟨rfl, HM6.out⟩
  have hqb2 : ¬ (67108864 : Int) < (q : Int) := by omega
  obtain ⟨q1, q2⟩ := hq (by omega)
  have HSM : Hid (∀ e ∈ L, Small e) := Lib.hid (fun e he => ⟨HF.out e he, by have := q1 e he; omega, by have := q1 e he; omega, by have := q1 e he; omega⟩)
  have HD := Lib.hid (decode_any b (by have := HB.out.mods HM6.out (by simp); exact this) (by omega) (hT.mods HM6.out))
  have HC := Lib.hid (dec_cases b (by omega))
  generalize decP b = r at *
  obtain ⟨M, er⟩ := r
  clear q1 HZ HF hq
  go_wp2_with fail
  refine HD.out.mono ?_
  rintro x w7 ⟨v7, rfl, he, hm⟩
  have HM7 := Lib.hid (HM6.out.trans hm (by simp))
  have HB7 := Lib.hid (HB.out.mods HM7.out (by simp))
  have KB := fun w' (hw : Mods [] w7 w') => conv_rd (HB7.out.mods hw (by simp))
  obtain ⟨A7, c7, hv7⟩ : ∃ A c, v7 = .slice A M.length c := by
    obtain ⟨A, c, e, -⟩ := he.ents
    exact ⟨A, c, e⟩
  clear HD hm
  go_upto_if 53 with fail
  go_cut [6, 7, 10, 11] from 54 (fun _ _ _ _ w' => Mods [] w w')
  case first =>
    rcases HC.out with ⟨M', hd, henc, hsm, hml⟩ | hd
    · obtain ⟨rfl, rfl⟩ := Prod.mk.inj hd
      have HE := Lib.hid (encode_any M he.ents hsm hml (hT.mods HM7.out))
      rw [henc] at HE
      obtain ⟨A7, c7, rfl, -⟩ := he.ents
      clear he hd henc hsm HC
      go_wp2_with fail
      refine HE.out.mono ?_
      rintro x w8 ⟨v8, rfl, ho, hm⟩
      have KV := conv_rd (Rd.of_own ho)
      have KB8 := KB w8 hm
      have HM8 := Lib.hid (HM7.out.trans hm (by simp))
      obtain ⟨A8, c8, rfl⟩ := own_ctor ho
      clear ho hm HE
      go_wp2_with first | rfl | exact KV | exact KB8 | fail
      go_meet
      case rel => exact HM8.out
    · obtain ⟨rfl, rfl⟩ := Prod.mk.inj hd
      obtain ⟨A7, c7, rfl⟩ := ento_nil he
      clear he hd HC
      go_wp2_with fail
      go_meet
      case rel => exact HM7.out
  case rest =>
    clear HC
    have HM8 := Lib.hid hcut
    clear HB7 HB HM7 KB hcut
    have HC := Lib.hid (copied_any L (H.out.mods HM8.out) (fun e he => (HSM.out e he).data) (by omega))
    go_wp2_with fail
    refine HC.out.mono ?_
    rintro x w9 ⟨v9, rfl, he, hm⟩
    have HR := Lib.hid (rencode_any L he.ents HSM.out (by omega))
    rw [encPR_eq] at HR
    have HM9 := Lib.hid (HM8.out.trans hm (by simp))
    obtain ⟨A9, c9, rfl, -⟩ := he.ents
    clear he hm HC
    go_wp2_with fail
    refine HR.out.mono ?_
    rintro x wa ⟨va, rfl, ho, hm⟩
    have HMa := Lib.hid (HM9.out.trans hm (by simp))
    obtain ⟨Aa, ca, rfl⟩ := own_ctor ho
    have HC := Lib.hid (copied_any L (H.out.mods HMa.out) (fun e he => (HSM.out e he).data) (by omega))
    clear ho hm HR HM9 HM8
    go_wp2_with fail
    refine HC.out.mono ?_
    rintro x wb ⟨vb, rfl, he, hm⟩
    have HMb := Lib.hid (HMa.out.trans hm (by simp))
    have HE := Lib.hid (encode_any L he.ents HSM.out (by omega) (hT.mods HMb.out))
    obtain ⟨Ab, cb, rfl, -⟩ := he.ents
    clear he hm HC HMa
    go_wp2_with fail
    refine HE.out.mono ?_
    rintro x wc ⟨vc, rfl, ho, hm⟩
    have HMc := Lib.hid (HMb.out.trans hm (by simp))
    clear HE HMb
    rcases enc_cases L with henc | ⟨er, her, henc⟩
    · rw [henc] at ho ⊢
      have HD := Lib.hid (decode_any (fullD L) (Rd.of_own ho) (by rw [fullD_length]; have := enc_fits henc; omega) (hT.mods HMc.out))
      rw [dec_enc henc HSM.out (by omega)] at HD
      obtain ⟨Ac, cc, rfl⟩ := own_ctor ho
      clear ho hm
      go_wp2_with fail
      refine HD.out.mono ?_
      rintro x wd ⟨vd, rfl, he, hm⟩
      have HMd := Lib.hid (HMc.out.trans hm (by simp))
      have HS := Lib.hid (same_any L he.ents (H.out.mods HMd.out))
      obtain ⟨Ad, cd, rfl, -⟩ := he.ents
      clear he hm HD HMc
      go_wp2_with fail
      refine HS.out.mono ?_
      rintro x we ⟨rfl, hm⟩
      have HMe := Lib.hid (HMd.out.trans hm (by simp))
      clear hm HS HMd
      go_wp2_with fail
      go_ret
      exact ⟨rfl, HMe.out⟩
    · rw [henc] at ho ⊢
      obtain ⟨Ac, cc, rfl⟩ := own_ctor ho
      have her2 : (((er : Int) != 0) = true) := bne_iff_ne.2 (by omega)
      clear ho hm
      go_wp2_with fail
      go_ret
      exact ⟨rfl, HMc.out⟩
end Go.Proofs.YtmcekhgmmocajaaGreatDoor
