/- DumpTurned, walked. -/
import Derived.Test.YtmcekhgmmocajaaDoorOe
import Derived.Test.YtmcekhgmmocajaaDoorWh
import Derived.Test.YtmcekhgmmocajaaDoorSb
import Derived.Laws.BitsAllLaws
namespace Go.Proofs.YtmcekhgmmocajaaDoor
open Go.RowKit Me

theorem dec_not {b : List UInt8} (h : ∀ m, Sound m → fullD m = b → False) (hb : b.length ≤ 100000000) : decP b = ([], 210) := by
  unfold decP
  cases hr : readD b with
  | none => rfl
  | some M =>
    obtain ⟨k1, k2⟩ := readD_of hr
    simp only
    by_cases he : encP M = (b, 0)
    · exfalso
      unfold encP at he
      split at he
      · simp at he
      · rename_i h1
        split at he
        · simp at he
        · split at he
          · simp at he
          · simp only [Prod.mk.injEq, and_true] at he
            simp only [not_or] at h1
            have hall : M.all mayE = true := by simpa using h1.2
            exact h M ⟨fun e hm => may_fine (k2 e hm).1 (List.all_eq_true.1 hall e hm), by omega⟩ he
    · rw [if_neg he]
theorem enc_sound {L : List EntP} (h : encP L = (fullD L, 0)) (hf : ∀ e ∈ L, Small e) (hl : L.length ≤ 100000000) : Sound L ∧ 19 + sizeL L ≤ 16777216 := by
  unfold encP at h
  split at h
  · simp at h
  · rename_i h1
    split at h
    · simp at h
    · split at h
      · simp at h
      · simp only [not_or] at h1
        have hall : L.all mayE = true := by simpa using h1.2
        exact ⟨⟨fun e he => may_fine (hf e he).toFits (List.all_eq_true.1 hall e he), by omega⟩, by omega⟩
theorem ento_nil {B : Nat} {w : World} {v : Value} (h : EntO B w v []) : ∃ A c, v = .slice A 0 c := by
  obtain ⟨A, c, rfl, _⟩ := h.ents
  exact ⟨A, c, rfl⟩
theorem rd_bytes_init {w : World} {A : Option Addr} {c : Nat} {l : List UInt8} (h : Rd w (.slice A l.length c) (l.map byteV)) (k : Nat) (hk : k ≤ l.length) : Rd w (.slice A k c) ((l.take k).map byteV) := by
  obtain ⟨A', c', e, h1, h2, h3⟩ := h
  obtain ⟨rfl, _, rfl⟩ := Value.slice.inj e
  rw [List.length_map] at h1
  refine ⟨A, c, by simp [Nat.min_eq_left hk], by simp; omega, h2, fun j u hu => h3 j u ?_⟩
  rw [List.getElem?_map] at hu ⊢
  have hj : j < k := by
    have := (List.getElem?_eq_some_iff.1 (show ((l.take k).map byteV)[j]? = some u by rw [List.getElem?_map]; exact hu)).1
    simp at this
    omega
  rw [List.getElem?_take, if_pos hj] at hu
  exact hu
theorem own_setbyte {w : World} {B g n c : Nat} {l : List UInt8} (h : w.ownsRow B 5 1 (.slice (some ⟨g, 0, none⟩) n c) l.length (l.map byteV)) (k : Nat) (x : UInt8) :
    (w.setCell ⟨g, k, none⟩ (byteV x)).ownsRow B 5 1 (.slice (some ⟨g, 0, none⟩) n c) (l.set k x).length ((l.set k x).map byteV) ∧ B ≤ g := by
  rcases h.2 with ⟨e1, -⟩ | ⟨g', cap', cur, e1, h1, hg, h2, h3, h4, h5⟩
  · cases e1
  · obtain ⟨ea, en, ec⟩ := Value.slice.inj e1
    cases ea
    subst en
    subst ec
    refine ⟨⟨by simp, Or.inr ⟨g, c, cur.setIfInBounds k (byteV x), by rw [List.length_set], h1, heap_setCell_same _ _ _ _ _ _ hg, by rw [List.length_set]; exact h2, h3, by simpa using h4, ?_⟩⟩, h1⟩
    rw [Array.toList_setIfInBounds, List.take_set, List.length_set, h5, List.map_set]
/-- What has been handed in, cut to size. -/
def Hand (w w' : World) (v : Value) (L : List EntP) : Prop := Ents w' v L ∧ (∀ e ∈ L, Small e) ∧ L.length ≤ 100000000 ∧ Mods [] w w'
set_option maxRecDepth 100000 in
set_option maxHeartbeats 4000000 in
theorem turned_any {w : World} (L : List EntP) {v : Value} (h : Ents w v L) (hf : ∀ e ∈ L, e.Fits) (hz : ∀ e ∈ L, e.path.size ≤ 140737488355328 ∧ e.gid.size ≤ 140737488355328 ∧ e.data.length ≤ 140737488355328) (hT : Tabs w)
    (n : Int) (hn : -9223372036854775808 ≤ n ∧ n ≤ 9223372036854775807) (y : Nat) (hy : y < 256) :
    Calls Tryd.prog 4 #[v, .int .i64 n, .int .u8 (y : Int)] w fun x w' => x = .returned (.bool true) ∧ Mods [] w w' := by
  have H := Lib.hid h
  have HF := Lib.hid hf
  have HW := Lib.hid (weight_any L h hz)
  obtain ⟨A, c, rfl, -⟩ := h
  clear hz hf
  go_enter Tryd.func4, Tryd.ntmps4
  go_wp2_with fail
  refine HW.out.mono ?_
  rintro x w1 ⟨⟨q, rfl, hq⟩, hm⟩
  have HM1 := Lib.hid hm
  have HQ := Lib.hid hq
  clear hm hq HW
  go_upto_if 19 with fail
  go_cut [0] from 17 (fun v0 w' => ∃ L', Hand w w' v0 L')
  case first =>
    by_cases hb : 67108864 < q
    · have hb2 : (67108864 : Int) < (q : Int) := by omega
      go_wp2_with fail
      refine (small_any w1).mono ?_
      rintro x w2 ⟨v2, rfl, he, hm⟩
      have HH : Hid (Hand w w2 v2 smallL) := Lib.hid ⟨he, small_small, by decide, HM1.out.trans hm (by simp)⟩
      obtain ⟨A2, c2, rfl, -⟩ := he
      clear hm
      go_wp2_with fail
      go_meet
      case rel => exact ⟨_, HH.out⟩
    · have hb2 : ¬ (67108864 : Int) < (q : Int) := by omega
      obtain ⟨q1, q2⟩ := HQ.out (by omega)
      have HH : Hid (Hand w w1 (.slice A L.length c) L) := Lib.hid ⟨H.out.mods HM1.out, fun e he => ⟨HF.out e he, by have := q1 e he; omega, by have := q1 e he; omega, by have := q1 e he; omega⟩, by omega, HM1.out⟩
      clear q1 q2
      go_wp2_with fail
      go_meet
      case rel => exact ⟨_, HH.out⟩
  case rest =>
    obtain ⟨L1, hh⟩ := hcut
    clear H HF HQ HM1
    have HC := Lib.hid (copied_any L1 hh.1 (fun e he => (hh.2.1 e he).data) hh.2.2.1)
    have HH := Lib.hid hh
    obtain ⟨A1, c1, rfl, -⟩ := hh.1
    clear hh
    go_wp2_with fail
    refine HC.out.mono ?_
    rintro x w3 ⟨v3, rfl, he, hm⟩
    have HR := Lib.hid (rencode_any L1 he.ents HH.out.2.1 HH.out.2.2.1)
    have HM3 := Lib.hid (HH.out.2.2.2.trans hm (by simp))
    have HE1 : Hid (∀ w', Mods [] w3 w' → Ents w' (.slice A1 L1.length c1) L1) := Lib.hid (fun w' hw => HH.out.1.mods (hm.trans hw (by simp)))
    obtain ⟨A3, c3, rfl, -⟩ := he.ents
    clear he hm HC
    go_wp2_with fail
    refine HR.out.mono ?_
    rintro x w4 ⟨v4, rfl, ho, hm⟩
    have HM4 := Lib.hid (HM3.out.trans hm (by simp))
    have HE4 := Lib.hid (HE1.out w4 hm)
    obtain ⟨A4, c4, rfl⟩ := own_ctor ho
    clear ho hm HE1 HR
    obtain ⟨er, her⟩ : ∃ er, (encPR L1).2 = er := ⟨_, rfl⟩
    have HER := Lib.hid her
    rw [her]
    generalize (encPR L1).1.length = ln4
    clear her
    go_upto_if 28 with fail
    go_cut [0] from 17 (fun v0 w' => ∃ L', Hand w w' v0 L' ∧ encP L' = (fullD L', 0))
    case first =>
      by_cases hb : er = 0
      · subst hb
        have HX := Lib.hid (enc_of_ref HER.out)
        have HY : Hid (Hand w w4 (.slice A1 L1.length c1) L1) := Lib.hid ⟨HE4.out, HH.out.2.1, HH.out.2.2.1, HM4.out⟩
        go_wp2_with fail
        go_meet
        case rel => exact ⟨_, HY.out, HX.out⟩
      · have hb2 : (((er : Int) != 0) = true) := bne_iff_ne.2 (by omega)
        go_wp2_with fail
        refine (small_any w4).mono ?_
        rintro x w2 ⟨v2, rfl, he, hm⟩
        have HHs : Hid (Hand w w2 v2 smallL) := Lib.hid ⟨he, small_small, by decide, HM4.out.trans hm (by simp)⟩
        obtain ⟨A2, c2, rfl, -⟩ := he
        clear hm
        go_wp2_with fail
        go_meet
        case rel => exact ⟨_, HHs.out, small_enc⟩
    case rest =>
      obtain ⟨L2, hh, henc⟩ := hcut
      clear HER HE4 HM4 HM3 HH
      obtain ⟨hS, hsz⟩ := enc_sound henc hh.2.1 hh.2.2.1
      have HS := Lib.hid hS
      have HC := Lib.hid (copied_any L2 hh.1 (fun e he => (hh.2.1 e he).data) hh.2.2.1)
      have HH := Lib.hid hh
      obtain ⟨A1, c1, rfl, -⟩ := hh.1
      clear hh hS
      go_wp2_with fail
      refine HC.out.mono ?_
      rintro x w3 ⟨v3, rfl, he, hm⟩
      have HM3 := Lib.hid (HH.out.2.2.2.trans hm (by simp))
      have hR := encode_any L2 he.ents HH.out.2.1 HH.out.2.2.1 (hT.mods HM3.out)
      rw [henc] at hR
      have HR := Lib.hid hR
      obtain ⟨A3, c3, rfl, -⟩ := he.ents
      have HNS : Hid (∀ m, Sound m → fullD m = (fullD L2).take ((fullD L2).length - 1) → False) := Lib.hid (fun m hm e => not_shorter HS.out hm e)
      have HNL : Hid (∀ (x : UInt8) m, Sound m → fullD m = fullD L2 ++ [x] → False) := Lib.hid (fun x m hm e => not_longer HS.out hm e)
      have hbl := fullD_length L2
      have HNT : Hid (∀ (k : Nat) (x : UInt8) m, k < (fullD L2).length → (fullD L2)[k]? ≠ some x → Sound m → fullD m = (fullD L2).set k x → False) := Lib.hid (fun k x m hk hx hm e => not_turned hk (by omega) e hx)
      clear he hm HC hR henc
      generalize fullD L2 = b at *
      have hb1 : 19 ≤ b.length := by omega
      have hb2 : b.length ≤ 16777216 := by omega
      clear hbl hsz HH HS
      have hb3 : ((b.length : Int) < 19) = False := by simp; omega
      go_wp2_with fail
      refine HR.out.mono ?_
      rintro x w4 ⟨v4, rfl, ho, hm⟩
      have HM4 := Lib.hid (HM3.out.trans hm (by simp))
      simp only at ho
      have HO := Lib.hid (ownsRow_base ho HM3.out.size)
      obtain ⟨A4, c4, rfl⟩ := own_ctor ho
      have hcap := rd_cap (Rd.of_own ho)
      have hD1 := decode_any (b.take (b.length - 1)) (rd_bytes_init (Rd.of_own ho) (b.length - 1) (by omega)) (by rw [List.length_take]; omega) (hT.mods HM4.out)
      rw [dec_not HNS.out (by rw [List.length_take]; omega)] at hD1
      have HD1 := Lib.hid hD1
      clear ho hm HR HM3 hD1
      go_wp2_with fail
      refine HD1.out.mono ?_
      rintro x w5 ⟨v5, rfl, he, hm⟩
      obtain ⟨A5, c5, rfl⟩ := ento_nil he
      have HM5 := Lib.hid (HM4.out.trans hm (by simp))
      have HO5 := Lib.hid (ownsRow_mods HO.out hm (by simp))
      clear he hm HD1 HNS
      obtain ⟨i5, hi5, hy0, hy1, hy2⟩ := info_parts info5
      go_wp2_with (at_builtin; go_must (refine wpList_app _ rfl _ _ 22 22 rfl w.heap.size 5 i5 (.int .u8 0) 1 1 Tryd.underlying22 hi5 hy0 hy1 hy2 rfl (.slice none 0 0) 0 [] rfl (World.ownsRow_nil _ _ _ _) _ b.length (b.map byteV) rfl ?c1 ?c2 ?c3 ?c4 ?_))
      case c1 =>
        have := (Rd.of_own HO5.out).src Tryd.underlying22 (bytes_one b)
        rwa [List.length_map] at this
      case c2 => unfold maxLen; omega
      case c3 => omega
      case c4 => exact HM5.out.size
      intro v6 w6 hown hgrow hat
      have hm6 : Mods [] w5 w6 := (Mods.refl _ _).grown hgrow (fun x hx => by cases hx)
      have HM6 := Lib.hid (HM5.out.trans hm6 (by simp))
      have HO6 := Lib.hid (ownsRow_mods HO5.out hm6 (by simp))
      have HAP : Hid (∀ x, v6.ownBlock = some x → x ∉ (Value.slice A4 b.length c4).ownBlock.toList) := Lib.hid (fun x hx hm => by
        have h1 := (HO5.out.lt x (by simpa using hm)).2
        rcases hat with e | e
        · rw [hx] at e; cases e
        · rw [hx] at e; cases e; omega)
      have HV6 := Lib.hid hown
      obtain ⟨A6, c6, rfl⟩ := own_ctor hown
      clear hown hgrow hat hm6
      go_wp2_with (at_builtin; go_must (refine wpList_app _ rfl _ _ 22 22 rfl w.heap.size 5 i5 (.int .u8 0) 1 1 Tryd.underlying22 hi5 hy0 hy1 hy2 rfl _ _ _ rfl (HV6.out.alloc _) _ 1 [.int .u8 (y : Int)] rfl ?d1 ?d2 ?d3 ?d4 ?_))
      case d1 => exact src_one Tryd.underlying22 _ _ _ rfl
      case d2 => unfold maxLen; omega
      case d3 => omega
      case d4 => have := HM6.out.size; simp; omega
      intro v7 w7 hown hgrow hat
      have hm7 : Mods (Value.slice A6 b.length c6).ownBlock.toList w6 w7 := ((Mods.refl _ w6).alloc _).grown hgrow (fun x hx => Or.inl (by rw [hx]; simp))
      have HM7 := Lib.hid (HM6.out.trans hm7 (fun x hx => Or.inr (HV6.out.lt x (by simpa using hx)).1))
      have HO7 := Lib.hid (ownsRow_mods HO6.out hm7 (fun x hx hm => HAP.out x (by simpa using hm) (by rw [hx]; simp)))
      have hyb : b.map byteV ++ [.int .u8 (y : Int)] = (b ++ [UInt8.ofNat y]).map byteV := by
        rw [List.map_append]
        congr 1
        simp [byteV]
        omega
      rw [hyb] at hown
      have hD2 := decode_any (b ++ [UInt8.ofNat y]) (by have := Rd.of_own hown; exact this) (by rw [List.length_append]; simp; omega) (hT.mods HM7.out)
      rw [dec_not (HNL.out _) (by rw [List.length_append]; simp; omega)] at hD2
      have HD2 := Lib.hid hD2
      obtain ⟨A7, c7, rfl⟩ := own_ctor hown
      clear hown hgrow hat hm7 hD2 HAP HV6 HO6 HO5 HO HM5 HM6 HNL hyb
      go_wp2_with fail
      refine HD2.out.mono ?_
      rintro x w8 ⟨v8, rfl, he, hm⟩
      have HM8 := Lib.hid (HM7.out.trans hm (by simp))
      have HO8 := Lib.hid (ownsRow_mods HO7.out hm (by simp))
      obtain ⟨A8, c8, rfl⟩ := ento_nil he
      clear he hm HD2 HO7 HM7
      go_upto_if 64 with fail
      go_cut [2] from 63 (fun y2 w' => w' = w8 ∧ ∃ z : Nat, y2 = .int .u8 (z : Int) ∧ 0 < z ∧ z < 256)
      case first =>
        rcases Nat.eq_zero_or_pos y with rfl | hy0
        · go_wp2_with fail
          go_meet
          case rel => exact ⟨rfl, 1, rfl, by decide, by decide⟩
        · have hye : (((y : Int) == 0) = false) := by simp; omega
          go_wp2_with fail
          go_meet
          case rel => exact ⟨rfl, y, rfl, hy0, hy⟩
      case rest =>
        obtain ⟨hwc, z, rfl, hz0, hz1⟩ := hcut
        subst hwc
        go_upto_if 66 with fail
        go_cut [1] from 63 (fun n2 w' => w' = wc ∧ ∃ m : Nat, n2 = .int .i64 (m : Int) ∧ m ≤ 9223372036854775807)
        case first =>
          by_cases hneg : n < 0
          · go_wp2_with fail
            go_meet
            case rel => exact ⟨rfl, (-(n + 1)).toNat, by congr 1; omega, by omega⟩
          · go_wp2_with fail
            go_meet
            case rel => exact ⟨rfl, n.toNat, by congr 1; omega, by omega⟩
        case rest =>
          obtain ⟨hwc, m, rfl, hm0⟩ := hcut
          subst hwc
          rcases ownsRow_form HO8.out with ⟨e0, -⟩ | ⟨g, cap0, e0, -⟩
          · have := (Value.slice.inj e0).2.1
            omega
          obtain ⟨rfl, -, -⟩ := Value.slice.inj e0
          clear e0
          have hk : m % b.length < b.length := Nat.mod_lt _ (by omega)
          have hme : (m : Int).tmod (b.length : Int) = ((m % b.length : Nat) : Int) := by
            rw [Int.tmod_eq_emod_of_nonneg (by omega)]
            rfl
          obtain ⟨x0, hx0⟩ : ∃ x, b[m % b.length]? = some x := ⟨_, List.getElem?_eq_getElem hk⟩
          have ck := HO8.out.cells (g := g) rfl (m % b.length) (byteV x0) (by rw [List.getElem?_map, hx0]; rfl)
          rw [Addr.add_lit, Nat.zero_add] at ck
          have fk : wc.frozen? ⟨g, m % b.length, none⟩ = false := by
            rcases HO8.out.2 with ⟨e1, -⟩ | ⟨g', cap', cur, e1, -, hg, -⟩
            · cases e1
            · cases e1
              exact frozen_of_row _ _ _ _ _ hg
          have hkm : m % b.length ≤ m := Nat.mod_le _ _
          generalize m % b.length = k at *
          unfold byteV at ck
          have hbne : ((b.length : Int) == 0) = false := beq_eq_false_iff_ne.2 (by omega)
          have hbne2 : (b.length : Int) ≠ 0 := by omega
          have hxz : bits .xor .u8 (x0.toNat : Int) (z : Int) = ((x0 ^^^ UInt8.ofNat z).toNat : Int) := by
            rw [u8_xor_nat _ _ x0.toNat_lt hz1, UInt8.toNat_xor, UInt8.toNat_ofNat', Nat.mod_eq_of_lt (by omega)]
          have hxne : x0 ^^^ UInt8.ofNat z ≠ x0 := by
            intro he
            have h1 := congrArg UInt8.toNat he
            rw [UInt8.toNat_xor, UInt8.toNat_ofNat', Nat.mod_eq_of_lt (by omega)] at h1
            have h2 : x0.toNat ^^^ (x0.toNat ^^^ z) = x0.toNat ^^^ x0.toNat := by rw [h1]
            rw [← Nat.xor_assoc, Nat.xor_self, Nat.zero_xor] at h2
            omega
          obtain ⟨HOS, hBg⟩ := own_setbyte HO8.out k (x0 ^^^ UInt8.ofNat z)
          have HMS := Lib.hid (HM8.out.setCell (p := ⟨g, k, none⟩) (Or.inr hBg) (byteV (x0 ^^^ UInt8.ofNat z)))
          have hD3 := decode_any (b.set k (x0 ^^^ UInt8.ofNat z)) (Rd.of_own HOS) (by rw [List.length_set]; omega) (hT.mods HMS.out)
          rw [dec_not (fun M hM e => HNT.out k _ M hk (by rw [hx0]; intro h; exact hxne (Option.some.inj h).symm) hM e) (by rw [List.length_set]; omega)] at hD3
          unfold byteV at hD3 HMS
          rw [← hxz] at hD3 HMS
          have HD3 := Lib.hid hD3
          clear hD3 hxz hxne HOS hBg
          go_wp2_with fail
          refine HD3.out.mono ?_
          rintro x w9 ⟨v9, rfl, he, hm⟩
          have HM9 := Lib.hid (HMS.out.trans hm (by simp))
          obtain ⟨A9, c9, rfl⟩ := ento_nil he
          clear he hm HD3 HMS
          go_wp2_with fail
          go_ret
          exact ⟨rfl, HM9.out⟩
end Go.Proofs.YtmcekhgmmocajaaDoor
