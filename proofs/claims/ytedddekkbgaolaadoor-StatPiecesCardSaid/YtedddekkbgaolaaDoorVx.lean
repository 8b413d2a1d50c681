/- The walks of the document's writer, on: Open, Text. -/
import Derived.Test.YtedddekkbgaolaaDoorVw
import Derived.Test.YtedddekkbgaolaaDoorCg
namespace Go.Proofs.YtedddekkbgaolaaDoor
open Go.RowKit Me

theorem le_zero2 : le 0 2 = [0, 0] := rfl
set_option maxRecDepth 100000 in
set_option maxHeartbeats 1000000 in
theorem vopen_any {a : Nat} {S : WSt} {vb vo : Value} {w : World} (h : IsW 124 w a S vb vo) :
    Calls Tryd.prog 132 #[.pointer (some ⟨a, 0, none⟩)] w fun e w' => e = .returned (.int .i64 (S.opn.2 : Int)) ∧ WPost 124 w a vb vo S.opn.1 w' := by
  obtain ⟨c0, c1, c2, c3, f1, f2, f3⟩ := cell4 h.cells
  obtain ⟨A, c, hvb, hlc, hcm⟩ := ownsRow_slice h.b
  subst hvb
  have hl1 := h.wf.limit
  have hl2 := h.wf.bytes
  have hl3 := h.wf.many
  have HP := Lib.hid (vu16_any h 0 (by omega))
  have hop : S.opn = if (S.put [0, 0]).err ≠ 0 then (S.put [0, 0], 0) else ({ S.put [0, 0] with opens := S.opens ++ [S.bytes.length] }, S.bytes.length) := rfl
  have hpo : (S.put [0, 0]).opens = S.opens := by
    unfold WSt.put
    repeat' split
    all_goals rfl
  have hpl : (S.put [0, 0]).err = 0 → (S.put [0, 0]).bytes.length = S.bytes.length + 2 := by
    unfold WSt.put
    intro h
    split at h
    · rename_i h0
      exact absurd h h0
    · split at h
      · simp at h
      · rename_i h1 h2
        rw [if_neg h1, if_neg h2]
        simp
  rw [le_zero2] at HP
  rw [hop]
  have hwf := h.wf.put [0, 0]
  generalize S.put [0, 0] = S1 at *
  have HWF := Lib.hid hwf
  have HPO := Lib.hid hpo
  have hoc : S.opens.length ≤ 100000000 := by omega
  clear h c0 c2 c3 f1 f2 f3 hop hwf hpo
  by_cases he : S1.err = 0
  · rw [if_neg (by simp [he])]
    have HE := Lib.hid he
    have HPL := Lib.hid (hpl he)
    clear he hpl
    go_enter Tryd.func132, Tryd.ntmps132
    go_wp2_with fail
    refine HP.out.mono ?_; rintro e w1 ⟨rfl, hp⟩
    obtain ⟨vb1, vo1, h1, hm1, hk1⟩ := hp
    have H1 := Lib.hid h1
    have HM1 := Lib.hid hm1
    have HK1 := Lib.hid hk1
    obtain ⟨c0, c1, c2, c3, f1, f2, f3⟩ := cell4 h1.cells
    rw [HE.out] at c3
    obtain ⟨Ao, co, hvo, hlo, hco⟩ := ownsRow_slice h1.o
    subst hvo
    obtain ⟨i1, hj, hy0, hy1, hy2⟩ := info_parts info3
    clear h1 hm1 hk1 c0 c1 f1 f3
    go_wp2_with (at_builtin; go_must (refine wpList_app _ rfl _ _ 25 25 rfl 0 3 i1 (.int .i64 0) 1 8 Tryd.underlying25 hj hy0 hy1 hy2 rfl _ _ _ rfl (H1.out.o.alloc _) _ 1 [.int .i64 (S.bytes.length : Int)] rfl ?d1 ?d2 ?d3 ?d4 ?_))
    case d1 => exact src_one Tryd.underlying25 _ _ _ rfl
    case d2 => rw [HPO.out]; unfold maxLen; omega
    case d3 => rw [HPO.out]; omega
    case d4 => exact Nat.zero_le _
    intro v2 w2 hown hgrow hat
    obtain ⟨_, _, _, d2', g2'⟩ := behind_grow (H1.out.alloc _) hgrow (wrow (H1.out.alloc (.cells #[] 0)) (by decide)).2.1
    obtain ⟨A3, c3', rfl⟩ := own_ctor hown
    have hx := ((H1.out.alloc _).push (by decide) hgrow hown (by simpa using hat) (by have := HPL.out; omega) (by have := HPL.out; rw [HPO.out]; omega))
    have HX := Lib.hid hx.1
    have HM2 := Lib.hid (HM1.out.trans (((Mods.refl [] _).alloc _).mono (G := foot a _ _) (by simp) |>.trans hx.2 (fun b hb => Or.inl hb)) HK1.out)
    have HA2 := Lib.hid hat
    clear hx hown hgrow hat
    go_wp2_with fail
    go_ret
    refine ⟨rfl, _, _, by rw [← HPO.out]; exact HX.out, HM2.out, fun b hb => ?_⟩
    rcases mem_foot.1 hb with rfl | hb | hb
    · exact HK1.out _ (mem_foot.2 (Or.inl rfl))
    · exact HK1.out _ (mem_foot.2 (Or.inr (Or.inl hb)))
    · rcases HA2.out with e | e
      · exact HK1.out _ (mem_foot.2 (Or.inr (Or.inr (by rw [← e]; exact hb))))
      · rw [e] at hb
        obtain rfl := Option.some.inj hb
        exact Or.inr (by have := HM1.out.size; simp; omega)
  · rw [if_pos he]
    have he' : ((S1.err : Int) != 0) = true := by rw [bne_iff_ne]; omega
    clear hpl
    go_enter Tryd.func132, Tryd.ntmps132
    go_wp2_with fail
    refine HP.out.mono ?_; rintro e w1 ⟨rfl, hp⟩
    obtain ⟨vb1, vo1, h1, hm1, hk1⟩ := hp
    have HQ : Hid (WPost 124 w a (.slice A S.bytes.length c) vo S1 w1) := Lib.hid ⟨vb1, vo1, h1, hm1, hk1⟩
    obtain ⟨c0, c1, c2, c3, f1, f2, f3⟩ := cell4 h1.cells
    clear h1 hm1 hk1 c0 c1 c2 f1 f2 f3
    go_wp2_with fail
    go_ret
    exact ⟨rfl, HQ.out⟩
def RelText (w : World) (s : ByteArray) (v i : Value) (wr : World) : Prop :=
  ∃ j : Nat, j ≤ s.size ∧ i = .int .i64 j ∧ Grew w.heap.size w (.slice none 0 0) (le s.size 2 ++ s.data.toList.take j) v wr
set_option maxRecDepth 100000 in
set_option maxHeartbeats 1000000 in
theorem vtext_put {a : Nat} {S : WSt} {vb vo : Value} {w : World} (h : IsW 124 w a S vb vo) (s : ByteArray) (he : S.err = 0) (h6 : s.size ≤ 65535) (hg : Tx.good s.data.toList = true) :
    Calls Tryd.prog 80 #[.pointer (some ⟨a, 0, none⟩), .string s] w fun e w' => e = .returned (.tuple #[]) ∧ WPost 124 w a vb vo (S.put (le s.size 2 ++ s.data.toList)) w' := by
  obtain ⟨c0, c1, c2, c3, f1, f2, f3⟩ := cell4 h.cells
  rw [he] at c3
  have H := Lib.hid h
  have hgd := rgood_any s w (by omega)
  rw [hg] at hgd
  have HG := Lib.hid hgd
  obtain ⟨i0, hi, hz0, hz1, hz2⟩ := info_parts info5
  clear h he hg hgd c0 c1 c2 f1 f2 f3
  go_enter Tryd.func80, Tryd.ntmps80
  go_wp2_with fail
  refine HG.out.mono ?_; rintro e w0 ⟨rfl, rfl⟩
  go_wp2_with (at_builtin; go_must (refine wpList_app _ rfl _ _ 43 43 rfl w.heap.size 5 i0 (.int .u8 0) 1 1 Tryd.underlying43 hi hz0 hz1 hz2 rfl (.slice none 0 0) 0 [] rfl (World.ownsRow_nil _ _ _ _) _ 2 [.int .u8 ((s.size : Int) % 256), .int .u8 ((s.size : Int) / 256)] rfl ?c1 ?c2 ?c3 ?c4 ?_))
  case c1 => exact src_lit Tryd.underlying43 w [.int .u8 ((s.size : Int) % 256), .int .u8 ((s.size : Int) / 256)] 5 2 rfl (by intro u hu; simp at hu; rcases hu with rfl | rfl <;> rfl)
  case c2 => unfold maxLen; omega
  case c3 => omega
  case c4 => simp
  intro v1 w1 hown hgrow hat
  have hG : Grew w.heap.size w (.slice none 0 0) ([] ++ le s.size 2) v1 w1 := (Grew.refl (World.ownsRow_nil w w.heap.size 5 1)).app (L := []) _ (m := 2) (by simpa using hown) (bs := le s.size 2) (le_cells _ h6) (le_length _ _).symm hgrow (by simpa using hat)
  have HG1 := Lib.hid hG
  obtain ⟨A1, c1, rfl⟩ := own_ctor hown
  clear hG hown hgrow hat
  go_wp2_with fail
  go_loopw [4, 5] (fun v i wr => RelText w s v i wr) (fun _ i _ => s.size - (intOf i).toNat)
  case atStart => exact ⟨0, by omega, rfl, by simpa using HG1.out⟩
  case round =>
    obtain ⟨j, hj, rfl, hg⟩ := hrel
    have HG2 := Lib.hid hg
    have hlen : (le s.size 2 ++ s.data.toList.take j).length = j + 2 := by rw [List.length_append, le_length, List.length_take, size_list]; omega
    have HSN := Lib.hid (fun (h : j < s.data.toList.length) => show s.data.toList.take (j + 1) = s.data.toList.take j ++ [s.data.toList[j]] from List.take_succ_eq_append_getElem h)
    generalize hM : le s.size 2 ++ s.data.toList.take j = M at *
    have HM := Lib.hid hM
    obtain ⟨A, c, rfl⟩ := own_ctor hg.1
    have hsz := HG2.out.2.1.size
    have HL := Lib.hid hlen
    clear hg hM
    rw [hlen]
    clear hlen
    rcases Nat.lt_or_ge j s.size with hlt | hge
    · have hN := Lib.hid (HSN.out (by rw [size_list]; exact hlt))
      have hqe : byteV (s.data.toList[j]'(by rw [size_list]; exact hlt)) = .int .u8 ((s[j]'hlt).toNat : Int) := rfl
      go_wp2_with (at_builtin; go_must (refine wpList_app _ rfl _ _ 43 43 rfl w.heap.size 5 i0 (.int .u8 0) 1 1 Tryd.underlying43 hi hz0 hz1 hz2 rfl _ _ _ rfl (by have h := HG2.out.1.alloc (.cells #[.int .u8 ((s[j]'hlt).toNat : Int)] 5); rw [HL.out] at h; exact h) _ 1 [.int .u8 ((s[j]'hlt).toNat : Int)] rfl ?c1 ?c2 ?c3 ?c4 ?_))
      case c1 => exact src_one Tryd.underlying43 _ _ _ rfl
      case c2 => unfold maxLen; omega
      case c3 => omega
      case c4 => simp; omega
      intro v1 w1 hown hgrow hat
      have hG := HG2.out.app _ (by rw [HL.out]; exact hown) (bs := [s.data.toList[j]'(by rw [size_list]; exact hlt)]) (by rw [List.map_cons, List.map_nil, hqe]) rfl (by rw [HL.out]; exact hgrow) (by rw [HL.out]; simpa using hat)
      rw [← HM.out, List.append_assoc, ← hN.out] at hG
      have HR : Hid (RelText w s v1 (.int .i64 ((j : Int) + 1)) w1) := Lib.hid ⟨j + 1, by omega, rfl, hG⟩
      obtain ⟨A1, c1, rfl⟩ := own_ctor hown
      clear hG hown hgrow hat hqe
      go_wp2_with fail
      exact ⟨HR.out, by simp [intOf]; omega⟩
    · obtain rfl : j = s.size := by omega
      have E : Hid (le s.size 2 ++ s.data.toList = M) := Lib.hid (by rw [← HM.out, ← size_list, List.take_length])
      have hr := Rd.of_own HG2.out.1
      rw [HL.out] at hr
      have HP := Lib.hid (((WPost.start H.out).still (show Mods [] w wr from HG2.out.2.1)).call fun vb vo hi => vraw_any hi M hr)
      clear hr
      go_wp2_with fail
      refine HP.out.mono ?_; rintro e w2 ⟨rfl, hp⟩
      have HQ2 := Lib.hid hp
      clear hp
      go_wp2_with fail
      go_end0
      refine ⟨rfl, ?_⟩
      rw [E.out]
      exact HQ2.out
set_option maxRecDepth 100000 in
set_option maxHeartbeats 400000 in
/-- Text. -/
theorem vtext_any {a : Nat} {S : WSt} {vb vo : Value} {w : World} (h : IsW 124 w a S vb vo) (s : ByteArray) (hs : s.size ≤ 1099511627776) :
    Calls Tryd.prog 80 #[.pointer (some ⟨a, 0, none⟩), .string s] w fun e w' => e = .returned (.tuple #[]) ∧ WPost 124 w a vb vo (S.text s.data.toList) w' := by
  unfold WSt.text
  by_cases he : S.err = 0
  · rw [if_neg (by omega)]
    obtain ⟨c0, c1, c2, c3, f1, f2, f3⟩ := cell4 h.cells
    rw [he] at c3
    by_cases h6 : 65535 < s.size
    · rw [if_pos (by rw [size_list]; exact h6)]
      have HW := Lib.hid (h.wrong (by decide) 13 (by omega))
      have HM := Lib.hid ((Mods.refl [a] w).setCell (p := ⟨a, 3, none⟩) (Or.inl (by simp)) (.int .i64 ((13 : Nat) : Int)))
      clear h he c0 c1 c2 f1 f2
      go_enter Tryd.func80, Tryd.ntmps80
      go_wp2_with fail
      refine bodyPost_ret (results_none rfl _ _ _) rfl ?_
      exact ⟨rfl, WPost.same HW.out HM.out (by simp [foot])⟩
    · rw [if_neg (by rw [size_list]; exact h6)]
      by_cases hg : Tx.good s.data.toList = false
      · rw [if_pos hg]
        have hgd := rgood_any s w (by omega)
        rw [hg] at hgd
        have HG := Lib.hid hgd
        have HW := Lib.hid (h.wrong (by decide) 12 (by omega))
        have HM := Lib.hid ((Mods.refl [a] w).setCell (p := ⟨a, 3, none⟩) (Or.inl (by simp)) (.int .i64 ((12 : Nat) : Int)))
        clear h he c0 c1 c2 f1 f2 hg hgd
        go_enter Tryd.func80, Tryd.ntmps80
        go_wp2_with fail
        refine HG.out.mono ?_; rintro e w0 ⟨rfl, rfl⟩
        go_wp2_with fail
        refine bodyPost_ret (results_none rfl _ _ _) rfl ?_
        exact ⟨rfl, WPost.same HW.out HM.out (by simp [foot])⟩
      · rw [if_neg hg, size_list]
        exact vtext_put h s he (by omega) (by simpa using hg)
  · rw [if_pos he]
    obtain ⟨c0, c1, c2, c3, f1, f2, f3⟩ := cell4 h.cells
    have he' : ((S.err : Int) != 0) = true := by rw [bne_iff_ne]; omega
    have H := Lib.hid h
    clear h he c0 c1 c2 f1 f2 f3
    go_enter Tryd.func80, Tryd.ntmps80
    go_wp2_with fail
    refine bodyPost_ret (results_none rfl _ _ _) rfl ?_
    exact ⟨rfl, WPost.same H.out (Mods.refl [] _) (by simp)⟩
end Go.Proofs.YtedddekkbgaolaaDoor
