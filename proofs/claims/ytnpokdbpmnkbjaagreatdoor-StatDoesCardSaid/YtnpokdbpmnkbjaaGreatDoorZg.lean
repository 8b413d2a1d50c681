/- The reference's Pack. (Printed by wip/bin/genpack2.py.) -/
import Derived.Test.YtnpokdbpmnkbjaaGreatDoorPl
namespace Go.Proofs.YtnpokdbpmnkbjaaGreatDoor
open Go.RowKit Me

theorem PackOk.low {most : Int} {L : List StatP} {n m : Nat} (h : PackOk most L n) (k : PackOk most L m) : m ≤ n := by
  rcases Nat.lt_or_ge n m with hlt | hge
  · exfalso
    have hn : n < L.length := by have := k.le; omega
    obtain ⟨s, hs⟩ : ∃ s, L[n]? = some s := ⟨_, List.getElem?_eq_getElem hn⟩
    have ht : L.take (n + 1) = L.take n ++ [s] := by rw [List.take_add_one, hs]; rfl
    have htm : (L.take m).take (n + 1) = L.take (n + 1) := by rw [List.take_take, Nat.min_eq_left (by omega)]
    have hmem : s ∈ L.take m := by
      have h1 : s ∈ (L.take m).take (n + 1) := by rw [htm, ht]; simp
      exact List.mem_of_mem_take h1
    have hle := encT_take (L.take m) (n + 1)
    rw [htm, ht, encT_snoc, List.length_append, s.enc_length] at hle
    rcases h.full s hs with g | g
    · exact g (k.err s hmem)
    · rcases k.room with e | e
      · omega
      · omega
  · exact hge
theorem PackOk.one {most : Int} {L : List StatP} {n m : Nat} (h : PackOk most L n) (k : PackOk most L m) : n = m := Nat.le_antisymm (k.low h) (h.low k)
set_option maxRecDepth 100000 in
set_option maxHeartbeats 2000000 in
theorem rpack_any {w : World} (most : Int) (L : List StatP) (hsum : (encT L).length ≤ 1000000000000) {v : Value} (h : Sts w v L) (hf : ∀ s ∈ L, s.Fits ∧ s.size ≤ 268435456) :
    Calls Tryz.prog 36 #[.int .i64 most, v] w fun e w' => ∃ n : Nat, PackOk most L n ∧ ∃ vb : Value, e = .returned (.tuple #[vb, .int .i64 (n : Int)]) ∧ w'.ownsRow w.heap.size 5 1 vb (encT (L.take n)).length ((encT (L.take n)).map byteV) ∧ Mods [] w w' := by
  have H := Lib.hid h
  have HF := Lib.hid hf
  obtain ⟨A, c, rfl, hcap, hmax, -⟩ := h
  have hLm : L.length ≤ 9223372036854775807 := by unfold maxLen at hmax; omega
  clear hf hcap hmax
  obtain ⟨i0, hi, hz0, hz1, hz2⟩ := info_parts info5
  go_enter Tryz.func36, Tryz.ntmps36
  go_wp2_with fail
  go_loopw [6, 7] (fun v i wr => RelPk w most L v i wr) (fun _ i _ => L.length - (intOf i).toNat)
  case atStart => exact ⟨0, by omega, rfl, by simp, Or.inl rfl, World.ownsRow_nil _ _ _ _, Mods.refl _ _⟩
  case round =>
    obtain ⟨k, hk, rfl, herr, hroom, ho, hm⟩ := hrel
    obtain ⟨Ao, co, rfl⟩ := own_ctor ho
    have HO := Lib.hid ho
    have HM := Lib.hid hm
    have HE := Lib.hid herr
    rcases Nat.lt_or_ge k L.length with hlt | hge
    · obtain ⟨s, hs⟩ : ∃ s, L[k]? = some s := ⟨_, List.getElem?_eq_getElem hlt⟩
      obtain ⟨g, off, rfl, hrg⟩ := (H.out.mods hm).at hs
      have HRG := Lib.hid hrg
      have HS := Lib.hid hs
      obtain ⟨hsf, hsz⟩ := HF.out s (List.mem_of_getElem? hs)
      have HEN := Lib.hid (rencode_any (w := wr) s hsf hsz)
      have et : encT (L.take (k + 1)) = encT (L.take k) ++ s.enc := by
        rw [List.take_add_one, hs]
        exact encT_snoc _ _
      have HET := Lib.hid et
      clear ho hm hrg hs herr et hsf
      go_wp2_with (first | (refine wpList_load_mid rfl 35 _ rfl g (off + k * 13) rfl (statV s).toList _ HRG.out Tryz.underlying35 rfl info90t ?_))
      refine HEN.out.mono ?_; rintro e w11 ⟨vc, rfl, hoc, hmc⟩
      clear HEN
      by_cases he : s.err = 0
      · rw [encode_good he] at hoc ⊢
        obtain ⟨-, hbl⟩ := StatP.err_zero he
        have hel := s.enc_length
        have hbl2 := s.body_length
        have hsz2 : s.enc.length < 65538 := by omega
        have HEL := Lib.hid hel
        simp only at hoc ⊢
        obtain ⟨Ac, cc, rfl⟩ := own_ctor hoc
        have HOC := Lib.hid (Rd.of_own hoc)
        have HO3 := Lib.hid (ownsRow_mods HO.out hmc (by simp))
        have HM3 := Lib.hid (HM.out.trans hmc (by simp))
        have HSE := Lib.hid he
        have hE1 := Nat.le_trans (encT_take L k) hsum
        clear hoc hmc he hbl hbl2 hel hsz
        generalize hEE : encT (L.take k) = E at *
        have HEE := Lib.hid hEE
        clear hEE
        have hwr : IntKind.i64.wrap ((E.length : Int) + (s.enc.length : Int)) = (E.length : Int) + (s.enc.length : Int) := IntWalk.i64_in _ (by omega)
        have hEn : E.length ≤ 1000000000000 := by omega
        have HRM := Lib.hid hroom
        clear hroom
        by_cases hfit : ((E.length : Int) + (s.enc.length : Int)) ≤ most
        · have hnf : decide (most < (E.length : Int) + (s.enc.length : Int)) = false := by simp; omega
          go_wp2_with (at_builtin; go_must (refine wpList_app _ rfl _ _ 37 37 rfl w.heap.size 5 i0 (.int .u8 0) 1 1 Tryz.underlying37 hi hz0 hz1 hz2 rfl _ _ _ rfl HO3.out _ s.enc.length (s.enc.map byteV) rfl ?f1 ?f2 ?f3 ?f4 ?_))
          case f1 =>
            have h := HOC.out.src Tryz.underlying37 (bytes_one _)
            rw [List.length_map] at h
            exact h
          case f2 => unfold maxLen; omega
          case f3 => omega
          case f4 => exact HM3.out.size
          intro v2 w12 hown hgrow hat
          have HR9 : Hid (RelPk w most L v2 (.int .i64 ((k : Int) + 1)) w12) := Lib.hid ⟨k + 1, by omega, rfl, fun x hx => by
              rw [List.take_add_one, HS.out] at hx
              rcases List.mem_append.1 hx with hx | hx
              · exact HE.out x hx
              · simp at hx
                subst hx
                exact HSE.out, Or.inr (by rw [HET.out, List.length_append]; omega), by rw [HET.out, List.length_append, List.map_append]; exact hown, HM3.out.grown hgrow (fun b hb => Or.inr (HO3.out.lt b hb).1)⟩
          clear hown hgrow hat
          go_wp2_with fail
          exact ⟨HR9.out, by simp only [intOf]; omega⟩
        · have hnf : decide (most < (E.length : Int) + (s.enc.length : Int)) = true := by simp; omega
          go_wp2_with fail
          go_ret2
          refine ⟨k, ⟨hk, HE.out, by rw [HEE.out]; exact HRM.out, fun x hx => ?_⟩, _, rfl, by rw [HEE.out]; exact HO3.out, HM3.out⟩
          rw [HS.out] at hx
          cases hx
          right
          rw [HEE.out]
          have := HEL.out
          omega
      · rw [encode_bad rfl he] at hoc ⊢
        have he1 : ((s.err : Int) != 0) = true := by rw [bne_iff_ne]; omega
        have HO3 := Lib.hid (ownsRow_mods HO.out hmc (by simp))
        have HM3 := Lib.hid (HM.out.trans hmc (by simp))
        have HSE := Lib.hid he
        have HRM := Lib.hid hroom
        clear hoc hmc he hroom
        go_wp2_with fail
        go_ret2
        refine ⟨k, ⟨hk, HE.out, HRM.out, fun x hx => ?_⟩, _, rfl, HO3.out, HM3.out⟩
        rw [HS.out] at hx
        cases hx
        exact Or.inl HSE.out
    · obtain rfl : k = L.length := by omega
      have HRM := Lib.hid hroom
      clear ho hm hroom
      go_wp2_with fail
      go_ret2
      exact ⟨L.length, ⟨by omega, HE.out, HRM.out, fun x hx => by simp at hx⟩, _, rfl, HO.out, HM.out⟩
end Go.Proofs.YtnpokdbpmnkbjaaGreatDoor
