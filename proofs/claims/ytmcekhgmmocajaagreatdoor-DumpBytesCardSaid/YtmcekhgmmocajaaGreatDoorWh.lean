/- The law's copied, weight. | The law's weight. -/
import Derived.Test.YtmcekhgmmocajaaGreatDoorEr
import Derived.Test.YtmcekhgmmocajaaGreatDoorEf
namespace Go.Proofs.YtmcekhgmmocajaaGreatDoor
open Go.RowKit Me Go.BigFrame

def RelCo (w : World) (L : List EntP) (v i : Value) (wr : World) : Prop := ∃ k : Nat, k ≤ L.length ∧ i = .int .i64 k ∧ EntO w.heap.size wr v (L.take k) ∧ Mods [] w wr
set_option maxRecDepth 100000 in
set_option maxHeartbeats 2000000 in
theorem copied_any {w : World} (L : List EntP) {v : Value} (h : Ents w v L) (hz : ∀ e ∈ L, e.data.length ≤ 100000000) (hlen : L.length ≤ 100000000) :
    Calls Tryz.prog 12 #[v] w fun x w' => ∃ v', x = .returned v' ∧ EntO w.heap.size w' v' L ∧ Mods [] w w' := by
  have H := Lib.hid h
  have HZ := Lib.hid hz
  obtain ⟨A, c, rfl, -⟩ := h
  obtain ⟨i5, hi5, hy0, hy1, hy2⟩ := info_parts info5
  obtain ⟨i0, hi, hz0, hz1, hz2⟩ := info_parts info38z
  clear hz
  go_enter Tryz.func12, Tryz.ntmps12
  go_wp2_with fail
  go_loopw [3, 4] (fun v i wr => RelCo w L v i wr) (fun _ i _ => L.length - (intOf i).toNat)
  case atStart => exact ⟨0, by omega, rfl, EntO.nil _ _, Mods.refl _ _⟩
  case round =>
    obtain ⟨k, hk, rfl, ho, hm⟩ := hrel
    have HO := Lib.hid ho
    have HM := Lib.hid hm
    rcases Nat.lt_or_ge k L.length with hlt | hge
    · obtain ⟨e, hs⟩ : ∃ e, L[k]? = some e := ⟨_, List.getElem?_eq_getElem hlt⟩
      obtain ⟨g, off, vd, rfl, hrg0, hrd0⟩ := H.out.at hs
      have hd := HZ.out e (List.mem_of_getElem? hs)
      have HRG := Lib.hid (range_mods hrg0 HM.out (by simp))
      have HRD := Lib.hid (fun w' (hw : Mods [] w w') => hrd0.mods hw (by simp))
      have HTK : Hid (L.take (k + 1) = L.take k ++ [e]) := Lib.hid (by rw [List.take_add_one, hs]; rfl)
      obtain ⟨vA, vc, rfl, -⟩ := id hrd0
      rw [List.length_map] at *
      simp only [entC] at HRG
      have HLN : Hid ((L.take k).length = k) := Lib.hid (by rw [List.length_take]; omega)
      have HX1 := Lib.hid (heap_alloc_new wr (.cells #[.string e.path, .int .u32 (e.mode : Int), .int .u32 (e.mtime : Int), .string e.gid, .slice vA e.data.length vc] 47))
      have HM1 := Lib.hid ((Mods.refl [] wr).alloc (.cells #[.string e.path, .int .u32 (e.mode : Int), .int .u32 (e.mtime : Int), .string e.gid, .slice vA e.data.length vc] 47))
      have hws := hm.size
      clear hrg0 hrd0 hs ho hm
      generalize hT : L.take k = T at *
      obtain ⟨V0, hV0, hrow0, hdat0, -⟩ := HO.out
      obtain ⟨Au, cu, rfl⟩ := own_ctor hrow0
      have HSZ : Hid (∀ x, (Value.slice Au T.length cu).ownBlock = some x → x < wr.heap.size) := Lib.hid (fun x hx => (HO.out.own x hx).2)
      clear V0 hV0 hrow0 hdat0 hT
      have c4 : (wr.alloc (.cells #[.string e.path, .int .u32 (e.mode : Int), .int .u32 (e.mtime : Int), .string e.gid, .slice vA e.data.length vc] 47)).cell? ⟨wr.heap.size, 4, none⟩ = some (.slice vA e.data.length vc) := by rw [cell_of_row _ _ _ _ _ _ HX1.out]; rfl
      have hsz1 : (wr.alloc (.cells #[.string e.path, .int .u32 (e.mode : Int), .int .u32 (e.mtime : Int), .string e.gid, .slice vA e.data.length vc] 47)).heap.size = wr.heap.size + 1 := by simp
      have HS1 := Lib.hid hsz1
      clear hsz1
      go_wp2_with (first | (refine wpList_load_mid rfl 47 _ rfl g (off + k * 5) rfl [.string e.path, .int .u32 (e.mode : Int), .int .u32 (e.mtime : Int), .string e.gid, .slice vA e.data.length vc] _ HRG.out Tryz.underlying47 rfl info38t ?_) | (at_builtin; go_must (refine wpList_app _ rfl _ _ 22 22 rfl w.heap.size 5 i5 (.int .u8 0) 1 1 Tryz.underlying22 hi5 hy0 hy1 hy2 rfl (.slice none 0 0) 0 [] rfl (World.ownsRow_nil _ _ _ _) _ e.data.length (e.data.map byteV) rfl ?c1 ?c2 ?c3 ?c4 ?_)))
      case c1 =>
        have := (HRD.out _ (HM.out.trans HM1.out (by simp))).src Tryz.underlying22 (bytes_one e.data)
        rwa [List.length_map] at this
      case c2 => unfold maxLen; omega
      case c3 => omega
      case c4 => have := HS1.out; omega
      intro v2 w2 hown hgrow hat
      generalize (wr.alloc (.cells #[.string e.path, .int .u32 (e.mode : Int), .int .u32 (e.mtime : Int), .string e.gid, .slice vA e.data.length vc] 47)) = w1 at *
      generalize hbe : wr.heap.size = b at *
      have hm2 := (Mods.refl [] w1).grown hgrow (fun x hx => by cases hx)
      have HX2 := Lib.hid (hm2.heap HX1.out (by simp))
      have f4 : w2.frozen? ⟨b, 4, none⟩ = false := frozen_of_row _ _ _ _ _ HX2.out
      have d4 : w2.cell? ⟨b, 4, none⟩ = some (.slice vA e.data.length vc) := by rw [cell_of_row _ _ _ _ _ _ HX2.out]; rfl
      have HO2 := Lib.hid (HO.out.mods0 (HM1.out.trans hm2 (by simp)))
      have HB2 : Hid (EntB w.heap.size b w2 (.slice Au T.length cu) T) := Lib.hid (by rw [← hbe]; exact HO.out.toB.mods0 (HM1.out.trans hm2 (by simp)))
      have HM2 := Lib.hid (HM.out.trans (HM1.out.trans hm2 (by simp)) (by simp))
      have HW2 := Lib.hid hown
      obtain ⟨A2, b2, rfl⟩ := own_ctor hown
      have HVD : Hid (∀ k, (Value.slice A2 e.data.length b2).ownBlock = some k → b + 1 ≤ k) := Lib.hid (fun k hk => by
        rcases hat with h | h
        · rw [h] at hk; cases hk
        · rw [h] at hk; cases hk; exact Nat.le_refl _)
      clear hown hgrow hat hm2 c4
      have HS2 : Hid (b < w2.heap.size) := Lib.hid (by have := (Array.getElem?_eq_some_iff.1 HX2.out).1; exact this)
      have hm3 : Mods [b] w2 (w2.setCell ⟨b, 4, none⟩ (.slice A2 e.data.length b2)) := (Mods.refl _ _).setCell (Or.inl (by simp)) _
      have HX3 : Hid ((w2.setCell ⟨b, 4, none⟩ (.slice A2 e.data.length b2)).heap[b]? = some (.cells #[.string e.path, .int .u32 (e.mode : Int), .int .u32 (e.mtime : Int), .string e.gid, .slice A2 e.data.length b2] 47 (0, 0))) := Lib.hid (by rw [heap_setCell_same _ _ _ _ _ _ HX2.out]; rfl)
      have HO3 : Hid (EntO w.heap.size (w2.setCell ⟨b, 4, none⟩ (.slice A2 e.data.length b2)) (.slice Au T.length cu) T) := Lib.hid (HO2.out.mods hm3 (fun k hk cs fr hh => by simp at hk; subst hk; rw [HX2.out] at hh; simp at hh) (fun x hx hm => by have := HSZ.out x hx; simp at hm; omega))
      have HB3 : Hid (EntB w.heap.size b (w2.setCell ⟨b, 4, none⟩ (.slice A2 e.data.length b2)) (.slice Au T.length cu) T) := Lib.hid (HB2.out.mods hm3 (fun k hk cs fr hh => by simp at hk; subst hk; rw [HX2.out] at hh; simp at hh) (fun x hx hm => by have := HSZ.out x hx; simp at hm; omega))
      have HW3 := Lib.hid (own_kept HW2.out hm3 (fun k hk cs fr hh => by simp at hk; subst hk; rw [HX2.out] at hh; simp at hh))
      have HM3 : Hid (Mods [] w (w2.setCell ⟨b, 4, none⟩ (.slice A2 e.data.length b2))) := Lib.hid (HM2.out.trans hm3 (fun x hx => by simp at hx; right; omega))
      clear hm3
      generalize hw3 : w2.setCell ⟨b, 4, none⟩ (.slice A2 e.data.length b2) = w3 at *
      obtain ⟨V, hV, hrow, hdat, hnd, htop⟩ := HB3.out
      have HND := Lib.hid hnd
      have HNE := Lib.hid (fun k hk (hk2 : k ∈ blksV V) => (absurd (htop k hk2) (Nat.not_lt.2 (Nat.le_trans (Nat.le_succ _) (HVD.out k hk))) : False))
      have HROW := Lib.hid hrow
      have HDAT := Lib.hid hdat
      have HW3S := Lib.hid HM3.out.size
      have hTl : T.length ≤ 100000000 := by have := HLN.out; omega
      clear hrow hdat hnd htop HB2 HB3 HVD
      go_wp2_with (first
            | (refine wpList_load_row rfl 47 _ rfl b rfl 47 #[.string e.path, .int .u32 (e.mode : Int), .int .u32 (e.mtime : Int), .string e.gid, .slice A2 e.data.length b2] (0, 0) _ HX3.out Tryz.underlying47 rfl info38 ?_)
            | (at_builtin; go_must (refine wpList_app _ rfl _ _ 23 23 rfl w.heap.size 47 i0 (.agg #[.string ⟨#[]⟩, .int .u32 0, .int .u32 0, .string ⟨#[]⟩, .slice none 0 0]) 5 64 Tryz.underlying23 hi hz0 hz1 hz2 rfl _ _ _ rfl (HROW.out.alloc _) _ 1 (entC e (.slice A2 e.data.length b2)) rfl ?c1 ?c2 ?c3 ?c4 ?_)))
      case c1 => exact src_ent w3 e (.slice A2 e.data.length b2) rfl
      case c2 => unfold maxLen; omega
      case c3 => omega
      case c4 => have := HW3S.out; simp; omega
      intro v' w4 hown hgrow hat
      have hm : Mods (Value.slice Au T.length cu).ownBlock.toList w3 w4 := ((Mods.refl _ w3).alloc _).grown hgrow (fun x hx => Or.inl (by rw [hx]; simp))
      have hEE := EntO.snoc (e := e) hV HROW.out HDAT.out HW3.out hown hm HND.out HNE.out
      rw [← HTK.out] at hEE
      have HEE := Lib.hid hEE
      have HM4 : Hid (Mods [] w w4) := Lib.hid (HM3.out.trans hm (fun x hx => Or.inr (HO.out.own x (by simpa using hx)).1))
      obtain ⟨A9, c9, rfl⟩ := own_ctor hown
      clear hown hgrow hat hm hEE
      go_wp2_with fail
      exact ⟨⟨k + 1, by omega, rfl, HEE.out, HM4.out⟩, by simp only [intOf]; omega⟩
    · obtain rfl : k = L.length := by omega
      rw [List.take_length] at HO
      obtain ⟨V0, hV0, hrow0, hdat0, -⟩ := HO.out
      obtain ⟨Au, cu, rfl⟩ := own_ctor hrow0
      clear V0 hV0 hrow0 hdat0 ho hm
      go_wp2_with fail
      go_ret
      exact ⟨_, rfl, HO.out, HM.out⟩
end Go.Proofs.YtmcekhgmmocajaaGreatDoor
namespace Go.Proofs.YtmcekhgmmocajaaGreatDoor
open Go.RowKit Me Go.BigFrame

def RelWh (w : World) (L : List EntP) (n i : Value) (wr : World) : Prop :=
  ∃ k s : Nat, k ≤ L.length ∧ i = .int .i64 k ∧ n = .int .i64 s ∧ 30 * k ≤ s ∧ (∀ e ∈ L.take k, e.path.size + e.gid.size + e.data.length ≤ s) ∧ s ≤ 500000000000000 ∧ Mods [] w wr
set_option maxRecDepth 100000 in
set_option maxHeartbeats 2000000 in
theorem weight_any {w : World} (L : List EntP) {v : Value} (h : Ents w v L) (hz : ∀ e ∈ L, e.path.size ≤ 140737488355328 ∧ e.gid.size ≤ 140737488355328 ∧ e.data.length ≤ 140737488355328) :
    Calls Tryz.prog 10 #[v] w fun x w' => (∃ n : Nat, x = .returned (.int .i64 (n : Int)) ∧ (n ≤ 67108864 → (∀ e ∈ L, e.path.size + e.gid.size + e.data.length ≤ 67108864) ∧ 30 * L.length ≤ 67108864)) ∧ Mods [] w w' := by
  have H := Lib.hid h
  have HZ := Lib.hid hz
  obtain ⟨A, c, rfl, -⟩ := h
  clear hz
  go_enter Tryz.func10, Tryz.ntmps10
  go_wp2_with fail
  go_loopw [3, 4] (fun n i wr => RelWh w L n i wr) (fun _ i _ => L.length - (intOf i).toNat)
  case atStart => exact ⟨0, 0, by omega, rfl, rfl, by omega, by simp, by omega, Mods.refl _ _⟩
  case round =>
    obtain ⟨k, s, hk, rfl, rfl, h30, hall, hs5, hm⟩ := hrel
    have HM := Lib.hid hm
    have HA := Lib.hid hall
    clear hall
    rcases Nat.lt_or_ge k L.length with hlt | hge
    · by_cases hbig : s ≤ 67108864
      · obtain ⟨e, hs⟩ : ∃ e, L[k]? = some e := ⟨_, List.getElem?_eq_getElem hlt⟩
        obtain ⟨g, off, vd, rfl, hrg0, hrd0⟩ := H.out.at hs
        have HRG := Lib.hid (fun w' (hw : Mods [] w w') => range_ent (range_mods hrg0 hw (by simp)))
        obtain ⟨b1, b2, b3⟩ := HZ.out e (List.mem_of_getElem? hs)
        have HTK : Hid (L.take (k + 1) = L.take k ++ [e]) := Lib.hid (by rw [List.take_add_one, hs]; rfl)
        obtain ⟨vA, vc, rfl, -⟩ := id hrd0
        rw [List.length_map] at *
        obtain ⟨c0, c1, c2, c3, c4⟩ := HRG.out wr hm
        have HN : Hid (∀ e' ∈ L.take (k + 1), e'.path.size + e'.gid.size + e'.data.length ≤ s + 30 + e.path.size + e.gid.size + e.data.length) := Lib.hid (fun e' he => by
          rw [HTK.out, List.mem_append, List.mem_singleton] at he
          rcases he with he | rfl
          · have := HA.out e' he
            omega
          · omega)
        clear hrg0 hrd0 hs hm HRG
        have hb2 : (s : Int) ≤ 67108864 := by omega
        go_wp2_with (go_quiet (fail))
        exact ⟨⟨k + 1, s + 30 + e.path.size + e.gid.size + e.data.length, by omega, rfl, by congr 1, by omega, HN.out, by omega, HM.out.drewN _⟩, by simp only [intOf]; omega⟩
      · have hb2 : ¬ (s : Int) ≤ 67108864 := by omega
        clear hm
        go_wp2_with fail
        go_ret
        exact ⟨⟨s, rfl, fun h => by omega⟩, HM.out⟩
    · obtain rfl : k = L.length := by omega
      rw [List.take_length] at HA
      clear hm
      go_wp2_with fail
      go_ret
      exact ⟨⟨s, rfl, fun h => ⟨fun e he => Nat.le_trans (HA.out e he) h, by omega⟩⟩, HM.out⟩
end Go.Proofs.YtmcekhgmmocajaaGreatDoor
