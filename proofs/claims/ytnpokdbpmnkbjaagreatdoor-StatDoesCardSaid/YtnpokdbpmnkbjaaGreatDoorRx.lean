/- The walks of the document's reader; tells, number. -/
import Derived.Test.YtnpokdbpmnkbjaaGreatDoorRk
import Derived.Test.YtnpokdbpmnkbjaaGreatDoorWa
import Derived.Test.YtnpokdbpmnkbjaaGreatDoorCg
namespace Go.Proofs.YtnpokdbpmnkbjaaGreatDoor
open Go.RowKit Me

theorem wrong_nop {S : RSt} (he : S.err ≠ 0) (e : Int) (n : Nat) : S.wrong e n = S := by unfold RSt.wrong; rw [if_neg (by simp [he])]
set_option maxHeartbeats 400000 in
theorem qwrong_any {a : Nat} {S : RSt} {vb : Value} {w : World} (h : IsR 142 w a S vb) (he : S.err = 0) (e : Int) (n : Nat) (h0 : e ≠ 0) (h1 : -9223372036854775808 ≤ e) (h2 : e ≤ 9223372036854775807) (hn : S.place + n ≤ S.bytes.length) {y : Int} (hy : y = (n : Int)) :
    Calls Tryz.prog 136 #[.pointer (some ⟨a, 0, none⟩), .int .i64 e, .int .i64 y] w fun x w' => x = .returned (.tuple #[]) ∧ RPost 142 w a vb (S.wrong e n) w' := by
  subst hy
  obtain ⟨c0, c1, c2, c3, c4, f1, f3, f4⟩ := cell5 h.cells
  have hsz := h.wf.size
  have H := Lib.hid (h.bad n he h0 h1 h2 hn rfl)
  clear h0 h he c0 f1
  go_enter Tryz.func136, Tryz.ntmps136
  go_wp2_with fail
  go_region
  go_wp2_with fail
  go_end0
  exact ⟨rfl, H.out, (((Mods.refl _ _).setCell (p := ⟨a, 3, none⟩) (Or.inl (by simp)) _).setCell (p := ⟨a, 4, none⟩) (Or.inl (by simp)) _).drew⟩
set_option maxHeartbeats 400000 in
theorem qleft_any {a : Nat} {S : RSt} {vb : Value} {w : World} (h : IsR 142 w a S vb) :
    Calls Tryz.prog 71 #[.pointer (some ⟨a, 0, none⟩)] w fun x w' => x = .returned (.int .i64 (S.left : Int)) ∧ ∃ k, w.drewN k = w' := by
  obtain ⟨c0, c1, c2, c3, c4, f1, f3, f4⟩ := cell5 h.cells
  have hsz := h.wf.size
  have hpl := h.wf.place
  unfold RSt.left
  by_cases he : S.err = 0
  · obtain ⟨A, c, hvb, hlc, hcm⟩ := rd_slice h.b
    rw [if_neg (by simp [he])]
    rw [he] at c3
    subst hvb
    clear h he
    go_enter Tryz.func71, Tryz.ntmps71
    go_wp2_with fail
    go_quiet (fail)
    go_wp2_with fail
    go_ret
    exact ⟨by simp; omega, _, rfl⟩
  · rw [if_pos he]
    have he' : (S.err != 0) = true := by rw [bne_iff_ne]; exact he
    clear h he
    go_enter Tryz.func71, Tryz.ntmps71
    go_wp2_with fail
    go_ret
    exact ⟨rfl, 0, rfl⟩
theorem qat_any {a : Nat} {S : RSt} {vb : Value} {w : World} (h : IsR 142 w a S vb) :
    Calls Tryz.prog 65 #[.pointer (some ⟨a, 0, none⟩)] w fun x w' => x = .returned (.int .i64 ((S.base + S.place : Nat) : Int)) ∧ ∃ k, w.drewN k = w' := by
  obtain ⟨c0, c1, c2, c3, c4, f1, f3, f4⟩ := cell5 h.cells
  have hsz := h.wf.size
  have hpl := h.wf.place
  have e : (S.base : Int) + (S.place : Int) = ((S.base + S.place : Nat) : Int) := by omega
  have E := Lib.hid e
  clear h e
  go_enter Tryz.func65, Tryz.ntmps65
  go_wp2_with fail
  go_quiet (fail)
  go_wp2_with fail
  go_ret
  exact ⟨by rw [← E.out]; rfl, _, rfl⟩
theorem qerr_any {a : Nat} {S : RSt} {vb : Value} {w : World} (h : IsR 142 w a S vb) :
    Calls Tryz.prog 69 #[.pointer (some ⟨a, 0, none⟩)] w fun x w' => x = .returned (.tuple #[.int .i64 S.err, .int .i64 (S.spot : Int)]) ∧ ∃ k, w.drewN k = w' := by
  obtain ⟨c0, c1, c2, c3, c4, f1, f3, f4⟩ := cell5 h.cells
  clear h
  go_enter Tryz.func69, Tryz.ntmps69
  go_wp2_with fail
  go_quiet (fail)
  go_wp2_with fail
  go_ret2
  exact ⟨rfl, _, rfl⟩
set_option maxHeartbeats 400000 in
theorem qend_any {a : Nat} {S : RSt} {vb : Value} {w : World} (h : IsR 142 w a S vb) :
    Calls Tryz.prog 118 #[.pointer (some ⟨a, 0, none⟩)] w fun x w' => x = .returned (.tuple #[]) ∧ RPost 142 w a vb S.fin w' := by
  obtain ⟨c0, c1, c2, c3, c4, f1, f3, f4⟩ := cell5 h.cells
  have hpl := h.wf.place
  have hsz := h.wf.size
  obtain ⟨A, c, hvb, hlc, hcm⟩ := rd_slice h.b
  unfold RSt.fin
  by_cases he : S.err = 0
  · by_cases hf : S.place < S.bytes.length
    · rw [if_pos hf]
      have H := Lib.hid h
      have HE := Lib.hid he
      rw [he] at c3
      have hd : decide ((S.place : Int) < (S.bytes.length : Int)) = true := by rw [decide_eq_true_iff]; omega
      subst hvb
      clear h he
      go_enter Tryz.func118, Tryz.ntmps118
      go_wp2_with fail
      go_quiet (fail)
      go_wp2_with fail
      refine (qwrong_any (H.out.drewN _) HE.out 14 0 (by omega) (by omega) (by omega) (by omega) rfl).mono ?_; rintro e w1 ⟨rfl, hr⟩
      have HP := Lib.hid hr
      clear hr
      go_wp2_with fail
      go_end0
      exact ⟨rfl, HP.out.1, ((Mods.refl _ _).drewN _).trans HP.out.2 (fun b hb => Or.inl hb)⟩
    · rw [if_neg hf]
      have H := Lib.hid h
      rw [he] at c3
      have hd : decide ((S.place : Int) < (S.bytes.length : Int)) = false := by rw [decide_eq_false_iff_not]; omega
      subst hvb
      clear h he
      go_enter Tryz.func118, Tryz.ntmps118
      go_wp2_with fail
      go_quiet (fail)
      go_wp2_with fail
      go_end0
      exact ⟨rfl, RPost.same H.out _⟩
  · have e1 : (if S.place < S.bytes.length then S.wrong 14 0 else S) = S := by
      split
      · exact wrong_nop he _ _
      · rfl
    rw [e1]
    have H := Lib.hid h
    have he' : (S.err == 0) = false := by rw [beq_eq_false_iff_ne]; exact he
    subst hvb
    clear h he e1
    go_enter Tryz.func118, Tryz.ntmps118
    go_wp2_with fail
    go_quiet (fail)
    go_wp2_with fail
    go_end0
    exact ⟨rfl, RPost.same H.out _⟩
set_option maxHeartbeats 400000 in
theorem qfail_any {a : Nat} {S : RSt} {vb : Value} {w : World} (h : IsR 142 w a S vb) (e : Int) (h1 : -9223372036854775808 ≤ e) (h2 : e ≤ 9223372036854775807) :
    Calls Tryz.prog 119 #[.pointer (some ⟨a, 0, none⟩), .int .i64 e] w fun x w' => x = .returned (.tuple #[]) ∧ RPost 142 w a vb (S.wrong e 0) w' := by
  obtain ⟨c0, c1, c2, c3, c4, f1, f3, f4⟩ := cell5 h.cells
  have hpl := h.wf.place
  by_cases he : S.err = 0
  · by_cases h0 : e = 0
    · have hw : S.wrong e 0 = S := by unfold RSt.wrong; rw [if_neg (by simp [h0])]
      rw [hw]
      subst h0
      have H := Lib.hid h
      rw [he] at c3
      clear h he hw
      go_enter Tryz.func119, Tryz.ntmps119
      go_wp2_with fail
      go_end0
      exact ⟨rfl, RPost.self H.out⟩
    · have H := Lib.hid (qwrong_any h he e 0 h0 h1 h2 (by omega) rfl)
      rw [he] at c3
      have he' : (e != 0) = true := by rw [bne_iff_ne]; exact h0
      clear h0 he h
      go_enter Tryz.func119, Tryz.ntmps119
      go_wp2_with fail
      refine H.out.mono ?_; rintro e w1 ⟨rfl, hr⟩
      have HP := Lib.hid hr
      clear hr
      go_wp2_with fail
      go_end0
      exact ⟨rfl, HP.out⟩
  · have hw : S.wrong e 0 = S := by unfold RSt.wrong; rw [if_neg (by simp [he])]
    rw [hw]
    have H := Lib.hid h
    have he' : (S.err == 0) = false := by rw [beq_eq_false_iff_ne]; exact he
    clear h he hw
    go_enter Tryz.func119, Tryz.ntmps119
    go_wp2_with fail
    go_end0
    exact ⟨rfl, RPost.self H.out⟩
set_option maxRecDepth 100000 in
set_option maxHeartbeats 400000 in
theorem qnew_any {w : World} {vx : Value} (l : List UInt8) (hx : Rd w vx (l.map byteV)) (hl : l.length ≤ 70000000000000) :
    Calls Tryz.prog 61 #[vx] w (NewPost 142 w l) := by
  have HX := Lib.hid hx
  clear hx
  obtain ⟨i0, hi, hz0, hz1, hz2⟩ := info_parts info5
  go_enter Tryz.func61, Tryz.ntmps61
  go_wp2_with (at_builtin; go_must (refine wpList_app _ rfl _ _ 37 37 rfl w.heap.size 5 i0 (.int .u8 0) 1 1 Tryz.underlying37 hi hz0 hz1 hz2 rfl (.slice none 0 0) 0 [] rfl (World.ownsRow_nil _ _ _ _) vx l.length (l.map byteV) rfl ?c1 ?c2 ?c3 ?c4 ?_))
  case c1 =>
    have h := HX.out.src Tryz.underlying37 (bytes_one _)
    rw [List.length_map] at h
    exact h
  case c2 => unfold maxLen; omega
  case c3 => omega
  case c4 => exact Nat.le_refl _
  intro v' w1 hown hgrow hat2
  obtain ⟨A', c', rfl⟩ := own_ctor hown
  have HM := Lib.hid ((Mods.refl [] w).grown hgrow (by simp [Value.ownBlock]))
  have HO := Lib.hid hown
  clear hown hgrow hat2
  have HI := Lib.hid (isR_new 142 (w := w1) (vb := .slice A' l.length c') (S := RSt.new l) ⟨Nat.zero_le _, by show 0 + l.length ≤ _; omega, Nat.zero_le _, by show _ ≤ (0 : Int); omega, by show (0 : Int) ≤ _; omega⟩ (by
    have := Rd.of_own HO.out
    simpa [RSt.new] using this) (plain_own HO.out) (ownsRow_lt HO.out))
  go_wp2_with fail
  go_ret
  refine ⟨w1.heap.size, _, rfl, HI.out, ?_, HM.out.size, HM.out.alloc _⟩
  exact ownsRow_mods (F := []) HO.out ((Mods.refl _ _).alloc _) (by simp)
theorem count_sum (x y : UInt8) : (x.toNat : Int) + 256 * (y.toNat : Int) = ((val [x, y] : Nat) : Int) := by
  simp only [val]
  omega
set_option maxRecDepth 100000 in
set_option maxHeartbeats 1000000 in
theorem qcounted_two {a : Nat} {S : RSt} {vb : Value} {w : World} (h : IsR 142 w a S vb) (he : S.err = 0) (hf : 2 ≤ S.rest.length) :
    Calls Tryz.prog 134 #[.pointer (some ⟨a, 0, none⟩)] w fun x w' =>
      (S.rest.length < 2 + val (S.rest.take 2) ∧ x = .returned (.tuple #[.int .i64 0, .bool false]) ∧ RPost 142 w a vb (S.wrong 10 0) w') ∨
      (2 + val (S.rest.take 2) ≤ S.rest.length ∧ x = .returned (.tuple #[.int .i64 (val (S.rest.take 2) : Int), .bool true]) ∧ ∃ k, w.drewN k = w') := by
  have hsz := h.wf.size
  have hpl := h.wf.place
  have hfit : S.place + 2 ≤ S.bytes.length := by simp [RSt.rest] at hf; omega
  have hrl : S.rest.length = S.bytes.length - S.place := by simp [RSt.rest]
  obtain ⟨A, c, hvb, hlc, hcm, hcells⟩ := h.b
  obtain ⟨g, off, hA, hby⟩ := rd_bytes hvb hcells (by omega) S.place 2 hfit
  subst hA
  rw [List.length_map] at hvb hlc
  obtain ⟨x, hx, b0⟩ := hby 0 (by omega)
  obtain ⟨y, hy, b1⟩ := hby 1 (by omega)
  have hval : S.rest.take 2 = [x, y] := by
    have h0 : S.rest = S.bytes.drop S.place := rfl
    rw [h0]
    match hl : S.bytes.drop S.place, hx, hy with
    | p :: q :: r, hx, hy => simp at hx hy; subst hx hy; rfl
  have hlt : val (S.rest.take 2) < 65536 := val_take_lt _ 2
  rw [hval] at hlt ⊢
  have HV := Lib.hid (count_sum x y)
  have H := Lib.hid h
  have HE := Lib.hid he
  subst hvb
  have hxl := x.toNat_lt
  have hyl := y.toNat_lt
  obtain ⟨c0, c1, c2, c3, c4, f1, f3, f4⟩ := cell5 h.cells
  rw [he] at c3
  clear h he hcells hby hval hx hy
  generalize hvv : val [x, y] = n at HV hlt ⊢
  rw [hrl]
  clear hvv hrl
  simp only [Nat.add_zero] at b0
  have s1 : IntKind.i64.wrap ((S.place : Int) + 1) = (S.place : Int) + 1 := IntWalk.i64_in _ (by omega)
  have s2 : (0 : Int) ≤ (S.place : Int) + 1 := by omega
  have s3 : ((S.place : Int) + 1).toNat = S.place + 1 := by omega
  have s4 : (S.place : Int) + 1 < (S.bytes.length : Int) := by omega
  have s5 : (S.place : Int) < (S.bytes.length : Int) := by omega
  have hor := HV.out
  by_cases hfn : S.bytes.length - S.place < 2 + n
  · go_enter Tryz.func134, Tryz.ntmps134
    go_wp2_with fail
    go_quiet (fail)
    go_wp2_with fail
    go_quiet (fail)
    go_wp2_with fail
    refine (qwrong_any (H.out.drewN _) HE.out 10 0 (by omega) (by omega) (by omega) (by omega) rfl).mono ?_; rintro e w1 ⟨rfl, hr⟩
    have HP := Lib.hid hr
    clear hr
    go_wp2_with fail
    go_ret2
    exact Or.inl ⟨by omega, rfl, HP.out.1, ((Mods.refl _ _).drewN _).trans HP.out.2 (fun b hb => Or.inl hb)⟩
  · go_enter Tryz.func134, Tryz.ntmps134
    go_wp2_with fail
    go_quiet (fail)
    go_wp2_with fail
    go_quiet (fail)
    go_wp2_with fail
    go_ret2
    exact Or.inr ⟨by omega, rfl, _, rfl⟩
set_option maxHeartbeats 400000 in
/-- counted, whatever the reader is. -/
theorem qcounted_any {a : Nat} {S : RSt} {vb : Value} {w : World} (h : IsR 142 w a S vb) :
    Calls Tryz.prog 134 #[.pointer (some ⟨a, 0, none⟩)] w fun x w' =>
      (∃ n, S.counted = (some n, S) ∧ S.err = 0 ∧ 2 + n ≤ S.rest.length ∧ n < 65536 ∧ x = .returned (.tuple #[.int .i64 (n : Int), .bool true]) ∧ ∃ k, w.drewN k = w') ∨
      (S.counted.1 = none ∧ x = .returned (.tuple #[.int .i64 0, .bool false]) ∧ RPost 142 w a vb S.counted.2 w') := by
  obtain ⟨c0, c1, c2, c3, c4, f1, f3, f4⟩ := cell5 h.cells
  have hpl := h.wf.place
  have hsz := h.wf.size
  by_cases he : S.err = 0
  · by_cases hf : S.rest.length < 2
    · have e1 : S.counted = (none, S.wrong 10 0) := by unfold RSt.counted; rw [if_neg (by simp [he]), if_pos hf]
      rw [e1]
      have hrl : S.bytes.length - S.place < 2 := by simpa [RSt.rest] using hf
      obtain ⟨A, c, hvb, hlc, hcm⟩ := rd_slice h.b
      have H := Lib.hid h
      have HE := Lib.hid he
      rw [he] at c3
      subst hvb
      clear h he hf e1
      go_enter Tryz.func134, Tryz.ntmps134
      go_wp2_with fail
      go_quiet (fail)
      go_wp2_with fail
      refine (qwrong_any (H.out.drewN _) HE.out 10 0 (by omega) (by omega) (by omega) (by omega) rfl).mono ?_; rintro e w1 ⟨rfl, hr⟩
      have HP := Lib.hid hr
      clear hr
      go_wp2_with fail
      go_ret2
      exact Or.inr ⟨trivial, rfl, HP.out.1, ((Mods.refl _ _).drewN _).trans HP.out.2 (fun b hb => Or.inl hb)⟩
    · refine (qcounted_two h he (by omega)).mono ?_
      rintro x w' (⟨h1, h2, h3⟩ | ⟨h1, h2, h3⟩)
      · have e1 : S.counted = (none, S.wrong 10 0) := by unfold RSt.counted; rw [if_neg (by simp [he]), if_neg hf, if_pos h1]
        rw [e1]
        exact Or.inr ⟨rfl, h2, h3⟩
      · have e1 : S.counted = (some (val (S.rest.take 2)), S) := by unfold RSt.counted; rw [if_neg (by simp [he]), if_neg hf, if_neg (by omega)]
        exact Or.inl ⟨_, e1, he, h1, val_take_lt _ 2, h2, h3⟩
  · have e1 : S.counted = (none, S) := by unfold RSt.counted; rw [if_pos he]
    rw [e1]
    have H := Lib.hid h
    have he' : (S.err != 0) = true := by rw [bne_iff_ne]; exact he
    clear h he e1
    go_enter Tryz.func134, Tryz.ntmps134
    go_wp2_with fail
    go_ret2
    exact Or.inr ⟨trivial, rfl, RPost.self H.out⟩

theorem rq_bad {S : RSt} {n : Int} (he : S.err = 0) (hn : n < 0) : S.raw n = ([], S.wrong 1 0) := by unfold RSt.raw; rw [if_neg (by simp [he]), if_pos hn]
theorem rq_err {S : RSt} {n : Int} (he : S.err ≠ 0) : S.raw n = ([], S) := by unfold RSt.raw; rw [if_pos he]
theorem rq_short {S : RSt} {n : Int} (he : S.err = 0) (hn : ¬ n < 0) (hf : (S.rest.length : Int) < n) : S.raw n = ([], S.wrong 10 0) := by unfold RSt.raw; rw [if_neg (by simp [he]), if_neg hn, if_pos hf]
theorem rq_fits {S : RSt} {n : Nat} (he : S.err = 0) (hf : n ≤ S.rest.length) : S.raw (n : Int) = (S.rest.take n, { S with place := S.place + n }) := by unfold RSt.raw; rw [if_neg (by simp [he]), if_neg (by omega), if_neg (by omega)]; simp
set_option maxRecDepth 100000 in
set_option maxHeartbeats 1000000 in
theorem qraw_fits {a g off c : Nat} {S : RSt} {w : World} (h : IsR 142 w a S (.slice (some ⟨g, off, none⟩) S.bytes.length c)) (n : Nat) (he : S.err = 0) (hf : n ≤ S.rest.length) :
    Calls Tryz.prog 141 #[.pointer (some ⟨a, 0, none⟩), .int .i64 (n : Int)] w (RawP 142 w a (.slice (some ⟨g, off, none⟩) S.bytes.length c) (S.rest.take n, { S with place := S.place + n })) := by
  have hsz := h.wf.size
  have hpl := h.wf.place
  have hfit : S.place + n ≤ S.bytes.length := by simp [RSt.rest] at hf; omega
  have hln : (S.rest.take n).length = n := by simp; omega
  have hpt : ((S.bytes.map byteV).drop S.place).take n = (S.rest.take n).map byteV := by rw [RSt.rest, List.map_take, List.map_drop]
  have hrp := rd_part h.b (by simp) hfit
  rw [hpt] at hrp
  have HRP := Lib.hid hrp
  have hc : S.bytes.length ≤ c := by
    obtain ⟨A, c', e, h1, h2⟩ := rd_slice h.b
    cases e
    exact h1
  have hab : w.heap.size > a := by have := h.cells; exact (Array.getElem?_eq_some_iff.1 this).1
  have H := Lib.hid h
  have HL := Lib.hid hln
  obtain ⟨c0, c1, c2, c3, c4, f1, f3, f4⟩ := cell5 h.cells
  rw [he] at c3
  clear h he hf hrp hpt hln c2 c4
  have s1 : IntKind.i64.wrap ((S.place : Int) + (n : Int)) = (S.place : Int) + (n : Int) := IntWalk.i64_in _ (by omega)
  have s4 : ((S.place : Int) + (n : Int)).toNat = S.place + n := by omega
  have s6 : (S.place : Int) ≤ (S.place : Int) + (n : Int) := by omega
  have s7 : (S.place : Int) + (n : Int) ≤ (c : Int) := by omega
  have s8 : (0 : Int) ≤ (S.place : Int) + (n : Int) := by omega
  have s9 : S.place + n - S.place = n := by omega
  obtain ⟨i0, hi, hz0, hz1, hz2⟩ := info_parts info5
  go_enter Tryz.func141, Tryz.ntmps141
  go_wp2_with fail
  go_quiet (fail)
  go_wp2_with fail
  have d0 : (w.drewN nq).cell? ⟨a, 0, none⟩ = some (.slice (some ⟨g, off, none⟩) S.bytes.length c) := c0
  have d1 : (w.drewN nq).cell? ⟨a, 1, none⟩ = some (.int .i64 (S.place : Int)) := c1
  have HM := Lib.hid (show Mods [] w (w.drewN nq).drew from ((Mods.refl _ _).drewN nq).drew)
  generalize w.drewN nq = w1 at *
  go_still_tail 16, (by kernel_rfl)
  change wpList _ _ _ _ _ w1.drew
  generalize w1.drew = w2 at *
  generalize hz : (Value.slice (if c = S.place then some ⟨g, off, none⟩ else some ⟨g, off + S.place, none⟩) n (c - S.place)) = zz at *
  have HZ := Lib.hid hz
  clear hz
  go_wp2_with (at_builtin; go_must (refine wpList_app _ rfl _ _ 37 37 rfl w.heap.size 5 i0 (.int .u8 0) 1 1 Tryz.underlying37 hi hz0 hz1 hz2 rfl (.slice none 0 0) 0 [] rfl (World.ownsRow_nil _ _ _ _) _ n ((S.rest.take n).map byteV) rfl ?c1 ?c2 ?c3 ?c4 ?_))
  case c1 =>
    have h := (HRP.out.mods HM.out (by simp)).src Tryz.underlying37 (bytes_one _)
    rw [List.length_map, HL.out] at h
    exact h
  case c2 => unfold maxLen; omega
  case c3 => omega
  case c4 => exact HM.out.size
  intro v' w3 hown hgrow hat2
  have HM2 := Lib.hid (HM.out.grown hgrow (by simp [Value.ownBlock]))
  have HI := Lib.hid (H.out.still HM2.out)
  obtain ⟨-, d1', -, -, -, g1, -, -⟩ := cell5 HI.out.cells
  have HO := Lib.hid hown
  clear hown hgrow hat2
  go_wp2_with fail
  go_ret
  refine ⟨v', rfl, ?_, HI.out.goto n hfit rfl, (mods_up HM2.out).setCell (p := ⟨a, 1, none⟩) (Or.inl (by simp)) _⟩
  have hS := ownsRow_mods (F := [a]) HO.out ((Mods.refl _ _).setCell (p := ⟨a, 1, none⟩) (Or.inl (by simp)) (.int .i64 ((S.place : Int) + (n : Int)))) (by
    intro b hb hm
    simp at hm
    subst hm
    have := (HO.out.lt b hb).1
    omega)
  rw [HL.out]
  simpa using hS
set_option maxRecDepth 100000 in
set_option maxHeartbeats 1000000 in
theorem qraw_nil {a : Nat} {S : RSt} {w : World} (h : IsR 142 w a S (.slice none 0 0)) (he : S.err = 0) (hp : S.place = 0) :
    Calls Tryz.prog 141 #[.pointer (some ⟨a, 0, none⟩), .int .i64 0] w (RawP 142 w a (.slice none 0 0) ([], S)) := by
  have H := Lib.hid h
  have HPL := Lib.hid hp
  have hab : w.heap.size > a := by have := h.cells; exact (Array.getElem?_eq_some_iff.1 this).1
  have HP := Lib.hid (show S.place + 0 ≤ S.bytes.length by omega)
  obtain ⟨c0, c1, c2, c3, c4, f1, f3, f4⟩ := cell5 h.cells
  rw [hp] at c1
  rw [he] at c3
  have s0 : IntKind.i64.wrap 0 = 0 := by decide
  clear h he hp c2 c4
  obtain ⟨i0, hi, hz0, hz1, hz2⟩ := info_parts info5
  go_enter Tryz.func141, Tryz.ntmps141
  go_wp2_with fail
  go_quiet (fail)
  go_wp2_with fail
  have d0 : (w.drewN nq).cell? ⟨a, 0, none⟩ = some (.slice none 0 0) := c0
  have d1 : (w.drewN nq).cell? ⟨a, 1, none⟩ = some (.int .i64 0) := c1
  have HM := Lib.hid (show Mods [] w (w.drewN nq).drew from ((Mods.refl _ _).drewN nq).drew)
  generalize w.drewN nq = w1 at *
  go_still_tail 16, (by kernel_rfl)
  change wpList _ _ _ _ _ w1.drew
  generalize w1.drew = w2 at *
  go_wp2_with (at_builtin; go_must (refine wpList_app _ rfl _ _ 37 37 rfl w.heap.size 5 i0 (.int .u8 0) 1 1 Tryz.underlying37 hi hz0 hz1 hz2 rfl (.slice none 0 0) 0 [] rfl (World.ownsRow_nil _ _ _ _) _ 0 [] rfl ?c1 ?c2 ?c3 ?c4 ?_))
  case c1 => exact Src.ofNil _ Tryz.underlying37 _
  case c2 => unfold maxLen; omega
  case c3 => omega
  case c4 => exact HM.out.size
  intro v' w3 hown hgrow hat2
  have HM2 := Lib.hid (HM.out.grown hgrow (by simp [Value.ownBlock]))
  have HI := Lib.hid (H.out.still HM2.out)
  obtain ⟨-, -, -, -, -, g1, -, -⟩ := cell5 HI.out.cells
  have d1' : w3.cell? ⟨a, 1, none⟩ = some (.int .i64 0) := by
    have := (cell5 HI.out.cells).2.1
    rw [this, HPL.out]
    rfl
  have HO := Lib.hid hown
  clear hown hgrow hat2
  go_wp2_with fail
  go_ret
  refine ⟨v', rfl, ?_, HI.out.goto 0 HP.out (by rw [HPL.out]; rfl), (mods_up HM2.out).setCell (p := ⟨a, 1, none⟩) (Or.inl (by simp)) _⟩
  have hS := ownsRow_mods (F := [a]) HO.out ((Mods.refl _ _).setCell (p := ⟨a, 1, none⟩) (Or.inl (by simp)) (.int .i64 0)) (by
    intro b hb hm
    simp at hm
    subst hm
    have := (HO.out.lt b hb).1
    omega)
  simpa using hS
set_option maxRecDepth 100000 in
set_option maxHeartbeats 1000000 in
theorem qraw_any {a : Nat} {S : RSt} {vb : Value} {w : World} (h : IsR 142 w a S vb) (n : Int) (hn1 : -9223372036854775808 ≤ n) (hn2 : n ≤ 9223372036854775807) :
    Calls Tryz.prog 141 #[.pointer (some ⟨a, 0, none⟩), .int .i64 n] w (RawP 142 w a vb (S.raw n)) := by
  have hpl := h.wf.place
  have hsz := h.wf.size
  obtain ⟨c0, c1, c2, c3, c4, f1, f3, f4⟩ := cell5 h.cells
  by_cases he : S.err = 0
  · by_cases hn : n < 0
    · rw [rq_bad he hn]
      have HW := Lib.hid (qwrong_any h he 1 0 (by omega) (by omega) (by omega) (by omega) rfl)
      rw [he] at c3
      clear h he
      go_enter Tryz.func141, Tryz.ntmps141
      go_wp2_with fail
      refine HW.out.mono ?_; rintro e w1 ⟨rfl, hr⟩
      have HR := Lib.hid hr
      clear hr
      go_wp2_with fail
      go_ret
      exact ⟨_, rfl, World.ownsRow_nil _ _ _ _, HR.out⟩
    · by_cases hf : (S.rest.length : Int) < n
      · rw [rq_short he hn hf]
        have hrl : S.rest.length = S.bytes.length - S.place := by simp [RSt.rest]
        obtain ⟨A, c, hvb, hlc, hcm⟩ := rd_slice h.b
        have H := Lib.hid h
        have HE := Lib.hid he
        rw [he] at c3
        rw [hrl] at hf
        have hf2 : (S.bytes.length : Int) - S.place < n := by omega
        subst hvb
        clear h he hrl hf
        go_enter Tryz.func141, Tryz.ntmps141
        go_wp2_with fail
        go_quiet (fail)
        go_wp2_with fail
        refine (qwrong_any (H.out.drewN _) HE.out 10 0 (by omega) (by omega) (by omega) (by omega) rfl).mono ?_; rintro e w1 ⟨rfl, hr⟩
        have HR := Lib.hid hr
        clear hr
        go_wp2_with fail
        go_ret
        exact ⟨_, rfl, World.ownsRow_nil _ _ _ _, HR.out.1, ((Mods.refl _ _).drewN _).trans HR.out.2 (fun b hb => Or.inl hb)⟩
      · obtain ⟨m, rfl⟩ : ∃ m : Nat, n = (m : Int) := ⟨n.toNat, by omega⟩
        rw [rq_fits he (by omega)]
        obtain ⟨A, c, hvb, h1, h2⟩ := rd_slice h.b
        rcases h.pl with rfl | ⟨g, off, m', c', rfl⟩
        · injection hvb with _ e2 _
          have hb : S.bytes = [] := List.eq_nil_of_length_eq_zero e2.symm
          have hm : m = 0 := by simp [RSt.rest, hb] at hf; omega
          subst hm
          have hp : S.place = 0 := by rw [hb] at hpl; simpa using hpl
          exact qraw_nil h he hp
        · injection hvb with e1 e2 e3
          subst e2
          exact qraw_fits h m he (by omega)
  · rw [rq_err he]
    have H := Lib.hid h
    have he' : (S.err != 0) = true := by rw [bne_iff_ne]; exact he
    clear h he
    go_enter Tryz.func141, Tryz.ntmps141
    go_wp2_with fail
    go_ret
    exact ⟨_, rfl, World.ownsRow_nil _ _ _ _, RPost.self H.out⟩
theorem get_raw (S : RSt) (k : Nat) : S.get k = (val (S.raw (k : Int)).1, (S.raw (k : Int)).2) := by
  unfold RSt.get RSt.raw
  by_cases he : S.err ≠ 0
  · rw [if_pos he, if_pos he]; rfl
  · rw [if_neg he, if_neg he, if_neg (by omega : ¬ (k : Int) < 0)]
    by_cases hf : S.rest.length < k
    · rw [if_pos hf, if_pos (by omega)]; rfl
    · rw [if_neg hf, if_neg (by omega)]; simp
theorem raw_len {S : RSt} (k : Nat) : (S.raw (k : Int)).1.length ≤ k := by
  unfold RSt.raw
  repeat' split
  all_goals simp
  omega
def RelQ (w : World) (bs : List UInt8) (x i : Value) (wr : World) : Prop := ∃ j : Nat, j ≤ bs.length ∧ i = .int .i64 ((j : Int) - 1) ∧ x = .int .u64 (val (bs.drop j) : Int) ∧ w = wr
theorem val_drop {bs : List UInt8} {j : Nat} (h : j < bs.length) : val (bs.drop j) = bs[j].toNat + 256 * val (bs.drop (j + 1)) := by
  rw [List.drop_eq_getElem_cons h]
  rfl
set_option maxRecDepth 100000 in
set_option maxHeartbeats 1000000 in
theorem qget_any {a : Nat} {S : RSt} {vb : Value} {w : World} (h : IsR 142 w a S vb) (k : Nat) (hk : k ≤ 8) :
    Calls Tryz.prog 135 #[.pointer (some ⟨a, 0, none⟩), .int .i64 (k : Int)] w fun x w' => x = .returned (.int .u64 ((S.get k).1 : Int)) ∧ RPost 142 w a vb (S.get k).2 w' := by
  rw [get_raw]
  have HR := Lib.hid (qraw_any h (k : Int) (by omega) (by omega))
  have hl := raw_len (S := S) k
  clear h
  generalize S.raw (k : Int) = R at *
  obtain ⟨bs, R⟩ := R
  simp only at hl
  go_enter Tryz.func135, Tryz.ntmps135
  go_wp2_with fail
  refine HR.out.mono ?_; rintro e w1 ⟨v, rfl, ho, hr⟩
  simp only at ho hr
  have HP := Lib.hid hr
  obtain ⟨A, c, rfl⟩ := own_ctor ho
  have HO := Lib.hid (Rd.of_own ho)
  clear hr ho
  go_wp2_with fail
  go_loopw [6, 7] (fun x i wr => RelQ w1 bs x i wr) (fun _ i _ => (intOf i + 1).toNat)
  case atStart => exact ⟨bs.length, Nat.le_refl _, rfl, by rw [List.drop_length]; rfl, rfl⟩
  case round =>
    obtain ⟨j, hj, rfl, rfl, rfl⟩ := hrel
    rcases Nat.eq_zero_or_pos j with rfl | hpos
    · go_wp2_with fail
      go_ret
      exact ⟨rfl, HP.out⟩
    · obtain ⟨j, rfl⟩ : ∃ q, j = q + 1 := ⟨j - 1, by omega⟩
      have hjl : j < bs.length := by omega
      obtain ⟨g, off, rfl, d0⟩ := rd_at HO.out hjl
      have hv := val_drop hjl
      have hb := bs[j].toNat_lt
      have hlt := val_lt (bs.drop j)
      have hp8 : 256 ^ (bs.drop j).length ≤ 256 ^ 8 := Nat.pow_le_pow_right (by omega) (by rw [List.length_drop]; omega)
      have h8 : (256 : Nat) ^ 8 = 18446744073709551616 := rfl
      have e1 : (((j + 1 : Nat) : Int) - 1) = (j : Int) := by omega
      have HRR : Hid (RelQ w1 bs (.int .u64 (val (bs.drop j) : Int)) (.int .i64 ((j : Int) - 1)) w1) := Lib.hid ⟨j, by omega, rfl, rfl, rfl⟩
      rw [e1]
      generalize val (bs.drop j) = y at *
      generalize val (bs.drop (j + 1)) = z at *
      generalize bs[j] = q at *
      have s1 : IntKind.u64.wrap ((z : Int) * 256) = (z : Int) * 256 := by rw [IntKind.wrap_u64]; omega
      have s2 : IntKind.u64.wrap ((z : Int) * 256 + (q.toNat : Int)) = (y : Int) := by rw [IntKind.wrap_u64]; omega
      clear hv hlt hp8 h8
      go_wp2_with fail
      exact ⟨HRR.out, by simp only [intOf]; omega⟩

theorem get_lt (S : RSt) (k : Nat) : (S.get k).1 < 256 ^ k := by
  unfold RSt.get
  repeat' split
  · exact Nat.pow_pos (by omega)
  · exact Nat.pow_pos (by omega)
  · exact val_take_lt _ _
theorem qu8_any {a : Nat} {S : RSt} {vb : Value} {w : World} (h : IsR 142 w a S vb) :
    Calls Tryz.prog 121 #[.pointer (some ⟨a, 0, none⟩)] w fun x w' => x = .returned (.int .u8 ((S.get 1).1 : Int)) ∧ RPost 142 w a vb (S.get 1).2 w' := by
  have HG := Lib.hid (qget_any h 1 (by omega))
  have hlt := get_lt S 1
  clear h
  generalize S.get 1 = R at HG hlt ⊢
  obtain ⟨x, R⟩ := R
  simp only at hlt
  have hcv := conv_fit_8 x hlt
  clear hlt
  go_enter Tryz.func121, Tryz.ntmps121
  go_wp2_with fail
  refine HG.out.mono ?_; rintro e w1 ⟨rfl, hr⟩
  have HR := Lib.hid hr
  clear hr
  go_wp2_with fail
  go_ret
  exact ⟨rfl, HR.out⟩
theorem qu16_any {a : Nat} {S : RSt} {vb : Value} {w : World} (h : IsR 142 w a S vb) :
    Calls Tryz.prog 114 #[.pointer (some ⟨a, 0, none⟩)] w fun x w' => x = .returned (.int .u16 ((S.get 2).1 : Int)) ∧ RPost 142 w a vb (S.get 2).2 w' := by
  have HG := Lib.hid (qget_any h 2 (by omega))
  have hlt := get_lt S 2
  clear h
  generalize S.get 2 = R at HG hlt ⊢
  obtain ⟨x, R⟩ := R
  simp only at hlt
  have hcv := conv_fit_16 x hlt
  clear hlt
  go_enter Tryz.func114, Tryz.ntmps114
  go_wp2_with fail
  refine HG.out.mono ?_; rintro e w1 ⟨rfl, hr⟩
  have HR := Lib.hid hr
  clear hr
  go_wp2_with fail
  go_ret
  exact ⟨rfl, HR.out⟩
theorem qu32_any {a : Nat} {S : RSt} {vb : Value} {w : World} (h : IsR 142 w a S vb) :
    Calls Tryz.prog 115 #[.pointer (some ⟨a, 0, none⟩)] w fun x w' => x = .returned (.int .u32 ((S.get 4).1 : Int)) ∧ RPost 142 w a vb (S.get 4).2 w' := by
  have HG := Lib.hid (qget_any h 4 (by omega))
  have hlt := get_lt S 4
  clear h
  generalize S.get 4 = R at HG hlt ⊢
  obtain ⟨x, R⟩ := R
  simp only at hlt
  have hcv := conv_fit_32 x hlt
  clear hlt
  go_enter Tryz.func115, Tryz.ntmps115
  go_wp2_with fail
  refine HG.out.mono ?_; rintro e w1 ⟨rfl, hr⟩
  have HR := Lib.hid hr
  clear hr
  go_wp2_with fail
  go_ret
  exact ⟨rfl, HR.out⟩
theorem qu64_any {a : Nat} {S : RSt} {vb : Value} {w : World} (h : IsR 142 w a S vb) :
    Calls Tryz.prog 116 #[.pointer (some ⟨a, 0, none⟩)] w fun x w' => x = .returned (.int .u64 ((S.get 8).1 : Int)) ∧ RPost 142 w a vb (S.get 8).2 w' := by
  have HG := Lib.hid (qget_any h 8 (by omega))
  have hlt := get_lt S 8
  clear h
  generalize S.get 8 = R at HG hlt ⊢
  obtain ⟨x, R⟩ := R
  simp only at hlt
  have hcv := conv_fit_64 x hlt
  clear hlt
  go_enter Tryz.func116, Tryz.ntmps116
  go_wp2_with fail
  refine HG.out.mono ?_; rintro e w1 ⟨rfl, hr⟩
  have HR := Lib.hid hr
  clear hr
  go_wp2_with fail
  go_ret
  exact ⟨rfl, HR.out⟩
theorem bad_lt (l : List UInt8) : decide ((Tx.badL l : Int) < (l.length : Int)) = !Tx.good l := by
  have h := Tx.badL_le l
  have g := good_badL l
  rw [← g]
  by_cases e : Tx.badL l = l.length
  · rw [decide_eq_true e, decide_eq_false (by omega)]; rfl
  · rw [decide_eq_false e, decide_eq_true (by omega)]; rfl
set_option maxRecDepth 100000 in
set_option maxHeartbeats 1000000 in
theorem qtext_full {a : Nat} {S : RSt} {vb : Value} {w : World} (h : IsR 142 w a S vb) (n : Nat) (hcn : S.counted = (some n, S)) (he : S.err = 0) (hf : 2 + n ≤ S.rest.length) (hn : n < 65536) :
    Calls Tryz.prog 117 #[.pointer (some ⟨a, 0, none⟩)] w fun x w' => x = .returned (.string ⟨S.text.1.toArray⟩) ∧ RPost 142 w a vb S.text.2 w' := by
  have hsz := h.wf.size
  have hpl := h.wf.place
  have hfit : S.place + (2 + n) ≤ S.bytes.length := by simp [RSt.rest] at hf; omega
  obtain ⟨A, c, hvb, hlc, hcm, hcells⟩ := h.b
  obtain ⟨g, off, hA, hby⟩ := rd_bytes hvb hcells (by omega) S.place (2 + n) hfit
  subst hA
  have hpl2 : (S.part2 n).length = n := by simp [RSt.part2]; omega
  have hconv := conv_part (w := w) (g := g) (off := off) (c := c) (p := S.place + 2) (S.part2 n) (by
    intro hc
    rw [List.length_map] at hlc
    exact List.length_eq_zero_iff.1 (by omega)) (by
    intro j b hj
    have hjn : j < n := by rw [← hpl2]; exact (List.getElem?_eq_some_iff.1 hj).1
    obtain ⟨b', h1, h2⟩ := hby (2 + j) (by omega)
    have e : b' = b := by
      simp only [RSt.part2, RSt.rest, List.getElem?_take, List.getElem?_drop] at hj
      rw [if_pos hjn] at hj
      rw [List.getElem?_drop] at h1
      rw [h1] at hj
      exact Option.some.inj hj
    subst e
    rw [show off + (S.place + 2) + j = off + (S.place + (2 + j)) by omega]
    exact h2)
  rw [hpl2] at hconv
  have hszl : (⟨(S.part2 n).toArray⟩ : ByteArray).size = n := by simp [ByteArray.size, hpl2]
  have HCV := Lib.hid hconv
  clear hconv
  rw [List.length_map] at hvb hlc
  subst hvb
  have H := Lib.hid h
  have HC := Lib.hid (qcounted_any h)
  have HE := Lib.hid he
  have HN := Lib.hid hcn
  obtain ⟨c0, c1, c2, c3, c4, f1, f3, f4⟩ := cell5 h.cells
  have ht : S.text = if Tx.good (S.part2 n) then (S.part2 n, { S with place := S.place + 2 + n }) else ([], S.wrong 12 (2 + Tx.badL (S.part2 n))) := by unfold RSt.text; rw [hcn]
  have HT := Lib.hid ht
  have HBL := Lib.hid (Tx.badL_le (S.part2 n))
  have HBT := Lib.hid (bad_lt (S.part2 n))
  have HB := Lib.hid (fun w => rbad_any ⟨(S.part2 n).toArray⟩ w (by rw [hszl]; omega))
  have HL := Lib.hid hpl2
  clear h he hf hcells hby hcn ht hpl2 c2 c3 c4 f3 f4
  have s1 : IntKind.i64.wrap ((S.place : Int) + 2) = (S.place : Int) + 2 := IntWalk.i64_in _ (by omega)
  have s2 : IntKind.i64.wrap ((S.place : Int) + 2 + (n : Int)) = (S.place : Int) + 2 + (n : Int) := IntWalk.i64_in _ (by omega)
  have s3 : ((S.place : Int) + 2).toNat = S.place + 2 := by omega
  have s4 : ((S.place : Int) + 2 + (n : Int)).toNat = S.place + 2 + n := by omega
  have s5 : (0 : Int) ≤ (S.place : Int) + 2 := by omega
  have s6 : (S.place : Int) + 2 ≤ (S.place : Int) + 2 + (n : Int) := by omega
  have s7 : (S.place : Int) + 2 + (n : Int) ≤ (c : Int) := by omega
  have s8 : (0 : Int) ≤ (S.place : Int) + 2 + (n : Int) := by omega
  go_enter Tryz.func117, Tryz.ntmps117
  go_wp2_with fail
  refine HC.out.mono ?_; rintro e w1 hh
  rcases hh with ⟨m, hm, _, _, _, rfl, k, rfl⟩ | ⟨hm, _⟩
  · obtain rfl : m = n := by rw [HN.out] at hm; simpa using hm.symm
    clear hm
    go_wp2_with fail
    refine wp_region_quiet_lit (by kernel_rfl) (by kernel_rfl) ?_
    repeat (quiet_step (fail))
    refine wpQuiet_step (fun K hK => ?_)
    go_simp
    refine ⟨.string ⟨(S.part2 m).toArray⟩, fun n' => ?_, hK _ ?_⟩
    · rw [HCV.out]
      exact ⟨rfl, rfl⟩
    clear hK K
    repeat (quiet_step (fail))
    refine wpQuiet_nil ?_
    intro _ hw'
    obtain ⟨nq, rfl⟩ := hw'
    generalize (Value.slice (if c = S.place + 2 then some ⟨g, off, none⟩ else some ⟨g, off + (S.place + 2), none⟩) m (c - (S.place + 2))) = zz
    go_wp2_with fail
    have HP := Lib.hid ((Mods.refl [] w).drewN (k + nq))
    refine (HB.out _).mono ?_; rintro e w1 ⟨rfl, rfl⟩
    have HI := Lib.hid (H.out.still HP.out)
    have hbt := HBT.out
    have hbl : Tx.badL (S.part2 m) ≤ m := by have := HBL.out; rw [HL.out] at this; exact this
    rw [HL.out] at hbt
    cases hg : Tx.good (S.part2 m) with
    | true =>
      have HG := Lib.hid hg
      rw [hg] at hbt
      obtain ⟨-, d1, -, -, -, g1, -, -⟩ := cell5 HI.out.cells
      clear hg
      generalize hq : Tx.badL (S.part2 m) = q at *
      have hnq : ¬ ((q : Int) < (m : Int)) := by simpa using hbt
      clear hbt
      go_wp2_with fail
      go_ret
      rw [HT.out, if_pos HG.out, Nat.add_assoc]
      exact ⟨rfl, HI.out.goto (2 + m) hfit (by omega), (mods_up HP.out).setCell (p := ⟨a, 1, none⟩) (Or.inl (by simp)) _⟩
    | false =>
      have HG := Lib.hid hg
      rw [hg] at hbt
      clear hg
      generalize hq : Tx.badL (S.part2 m) = q at *
      have hnq : ((q : Int) < (m : Int)) := by simpa using hbt
      clear hbt
      go_wp2_with fail
      refine (qwrong_any HI.out HE.out 12 (2 + q) (by omega) (by omega) (by omega) (by omega) (by omega)).mono ?_; rintro e w2 ⟨rfl, hr⟩
      have HR := Lib.hid hr
      clear hr
      go_wp2_with fail
      go_ret
      rw [HT.out, if_neg (by rw [HG.out]; simp)]
      exact ⟨rfl, HR.out.behind HP.out⟩
  · rw [HN.out] at hm; simp at hm
set_option maxHeartbeats 400000 in
theorem qtext_any {a : Nat} {S : RSt} {vb : Value} {w : World} (h : IsR 142 w a S vb) :
    Calls Tryz.prog 117 #[.pointer (some ⟨a, 0, none⟩)] w fun x w' => x = .returned (.string ⟨S.text.1.toArray⟩) ∧ RPost 142 w a vb S.text.2 w' := by
  cases hc : S.counted.1 with
  | some n =>
    obtain ⟨h1, h2, h3, h4⟩ := counted_some hc
    exact qtext_full h n h1 h2 h3 h4
  | none =>
    have ht : S.text = ([], S.counted.2) := by
      unfold RSt.text
      cases hh : S.counted with
      | mk x y => rw [hh] at hc; simp at hc; subst hc; rfl
    rw [ht]
    have HC := Lib.hid (qcounted_any h)
    have HN := Lib.hid hc
    clear h hc ht
    generalize S.counted = R at HC HN ⊢
    go_enter Tryz.func117, Tryz.ntmps117
    go_wp2_with fail
    refine HC.out.mono ?_; rintro e w1 hh
    rcases hh with ⟨m, hm, _⟩ | ⟨_, rfl, hr⟩
    · have hn := HN.out
      rw [hm] at hn
      cases hn
    · have HR := Lib.hid hr
      clear hr
      go_wp2_with fail
      go_ret
      exact ⟨rfl, HR.out⟩

set_option maxRecDepth 100000 in
set_option maxHeartbeats 1000000 in
theorem qpart_none {a : Nat} {S : RSt} {vb : Value} {w : World} (h : IsR 142 w a S vb) (hn : S.counted.1 = none) :
    Calls Tryz.prog 113 #[.pointer (some ⟨a, 0, none⟩)] w (PartP 142 w a vb S.part) := by
  have ht : S.part = (⟨[], 0, S.counted.2.spot, S.counted.2.err, S.counted.2.spot⟩, S.counted.2) := by
    unfold RSt.part
    cases hh : S.counted with
    | mk x y => rw [hh] at hn; simp at hn; subst hn; rfl
  rw [ht]
  have HC := Lib.hid (qcounted_any h)
  have HN := Lib.hid hn
  clear h hn ht
  generalize S.counted = R at HC HN ⊢
  obtain ⟨_, R⟩ := R
  go_enter Tryz.func113, Tryz.ntmps113
  go_wp2_with fail
  refine HC.out.mono ?_; rintro e w1 hh
  rcases hh with ⟨m, hm, _⟩ | ⟨_, rfl, hr⟩
  · have hm2 := HN.out
    simp at hm hm2
    rw [hm2] at hm
    simp at hm
  · have HR := Lib.hid hr
    obtain ⟨-, -, -, d3, d4, -, -, -⟩ := cell5 hr.1.cells
    have hwf := hr.1.wf
    have HM := Lib.hid (show Mods [a] w w1.drew from hr.2.drew)
    have hi1 : IsR 142 w1.drew a R vb := hr.1.drewN 1
    have HI := Lib.hid hi1
    have HNW := Lib.hid (isR_new 142 (w := w1.drew) (vb := .slice none 0 0) (S := ⟨[], 0, R.spot, R.err, R.spot⟩) ⟨Nat.zero_le _, by show R.spot + 0 ≤ _; exact hwf.spot, hwf.spot, hwf.lo, hwf.hi⟩ ⟨none, 0, rfl, by simp, by unfold maxLen; omega, fun j u hu => by simp at hu⟩ (Or.inl rfl) (by simp [Value.ownBlock]))
    clear hr hwf hi1
    go_wp2_with fail
    go_still_tail 13, (by kernel_rfl)
    change wpList _ _ _ _ _ w1.drew
    generalize w1.drew = w2 at *
    go_wp2_with fail
    go_ret
    exact ⟨w2.heap.size, .slice none 0 0, rfl, HNW.out, HM.out.size, by simp [Value.ownBlock], HI.out.still ((Mods.refl _ _).alloc _), HM.out.alloc _⟩
set_option maxRecDepth 100000 in
set_option maxHeartbeats 1000000 in
theorem qpart_full {a g off c : Nat} {S : RSt} {w : World} (h : IsR 142 w a S (.slice (some ⟨g, off, none⟩) S.bytes.length c)) (n : Nat) (hcn : S.counted = (some n, S)) (hf : 2 + n ≤ S.rest.length) (hn : n < 65536) :
    Calls Tryz.prog 113 #[.pointer (some ⟨a, 0, none⟩)] w (PartP 142 w a (.slice (some ⟨g, off, none⟩) S.bytes.length c) S.part) := by
  have ht : S.part = (⟨S.part2 n, 0, S.base + (S.place + 2), 0, 0⟩, { S with place := S.place + 2 + n }) := by unfold RSt.part; rw [hcn]
  rw [ht]
  have hsz := h.wf.size
  have hpl := h.wf.place
  have hfit : S.place + (2 + n) ≤ S.bytes.length := by simp [RSt.rest] at hf; omega
  have hpt : ((S.bytes.map byteV).drop (S.place + 2)).take n = (S.part2 n).map byteV := by rw [RSt.part2, RSt.rest, List.map_take, List.map_drop, List.map_drop, List.drop_drop]
  have hrp := rd_part (p := S.place + 2) (n := n) h.b (by simp) (by omega)
  rw [hpt] at hrp
  have hln : (S.part2 n).length = n := by simp [RSt.part2]; omega
  have HL := Lib.hid hln
  have HRP := Lib.hid hrp
  have hc : S.bytes.length ≤ c := by
    obtain ⟨A, c', e, h1, h2⟩ := rd_slice h.b
    cases e
    exact h1
  have H := Lib.hid h
  have HC := Lib.hid (qcounted_any h)
  have HN := Lib.hid hcn
  have hab : a < w.heap.size := by have := h.cells; exact (Array.getElem?_eq_some_iff.1 this).1
  obtain ⟨c0, c1, c2, c3, c4, f1, f3, f4⟩ := cell5 h.cells
  obtain ⟨i0, hi, hz0, hz1, hz2⟩ := info_parts info5
  clear h hf hrp hpt hcn ht hln c3 c4 f3 f4
  have s1 : IntKind.i64.wrap ((S.place : Int) + 2) = (S.place : Int) + 2 := IntWalk.i64_in _ (by omega)
  have s2 : IntKind.i64.wrap ((S.place : Int) + 2 + (n : Int)) = (S.place : Int) + 2 + (n : Int) := IntWalk.i64_in _ (by omega)
  have s3 : ((S.place : Int) + 2).toNat = S.place + 2 := by omega
  have s4 : ((S.place : Int) + 2 + (n : Int)).toNat = S.place + 2 + n := by omega
  have s5 : (0 : Int) ≤ (S.place : Int) + 2 := by omega
  have s6 : (S.place : Int) + 2 ≤ (S.place : Int) + 2 + (n : Int) := by omega
  have s7 : (S.place : Int) + 2 + (n : Int) ≤ (c : Int) := by omega
  have s8 : (0 : Int) ≤ (S.place : Int) + 2 + (n : Int) := by omega
  have s9 : S.place + 2 + n - (S.place + 2) = n := by omega
  have s10 : IntKind.i64.wrap ((S.base : Int) + (S.place : Int)) = (S.base : Int) + (S.place : Int) := IntWalk.i64_in _ (by omega)
  have s11 : IntKind.i64.wrap ((S.base : Int) + (S.place : Int) + 2) = (S.base : Int) + (S.place : Int) + 2 := IntWalk.i64_in _ (by omega)
  go_enter Tryz.func113, Tryz.ntmps113
  go_wp2_with fail
  refine HC.out.mono ?_; rintro e w1 hh
  rcases hh with ⟨m, hm, -, -, -, rfl, k, hk⟩ | ⟨hm, -⟩
  · obtain rfl : n = m := by rw [HN.out] at hm; simpa using hm
    have d0 : w1.cell? ⟨a, 0, none⟩ = some (.slice (some ⟨g, off, none⟩) S.bytes.length c) := by rw [← hk]; exact c0
    have d1 : w1.cell? ⟨a, 1, none⟩ = some (.int .i64 (S.place : Int)) := by rw [← hk]; exact c1
    have HM1 := Lib.hid (show Mods [] w w1.drew by rw [← hk]; exact ((Mods.refl _ _).drewN k).drew)
    clear hk hm
    go_wp2_with fail
    go_still_tail 18, (by kernel_rfl)
    change wpList _ _ _ _ _ w1.drew
    generalize w1.drew = w2 at *
    generalize hz : (Value.slice (if c = S.place + 2 then some ⟨g, off, none⟩ else some ⟨g, off + (S.place + 2), none⟩) n (c - (S.place + 2))) = zz at *
    clear hz
    go_wp2_with (at_builtin; go_must (refine wpList_app _ rfl _ _ 37 37 rfl w.heap.size 5 i0 (.int .u8 0) 1 1 Tryz.underlying37 hi hz0 hz1 hz2 rfl (.slice none 0 0) 0 [] rfl (World.ownsRow_nil _ _ _ _) _ n ((S.part2 n).map byteV) rfl ?c1 ?c2 ?c3 ?c4 ?_))
    case c1 =>
      have h := (HRP.out.mods HM1.out (by simp)).src Tryz.underlying37 (bytes_one _)
      rw [List.length_map, HL.out] at h
      exact h
    case c2 => unfold maxLen; omega
    case c3 => omega
    case c4 => exact HM1.out.size
    intro v' w3 hown hgrow hat2
    have HM3 := Lib.hid ((HM1.out.grown hgrow (by simp [Value.ownBlock])).drew)
    have HI3 := Lib.hid (H.out.still HM3.out)
    obtain ⟨-, e1, e2, -, -, -, -, -⟩ := cell5 (H.out.still (HM1.out.grown hgrow (by simp [Value.ownBlock]))).cells
    have HO := Lib.hid (show w3.drew.ownsRow w.heap.size 5 1 v' n ((S.part2 n).map byteV) from ownsRow_mods (F := []) (by simpa using hown) (Mods.refl _ _).drew (by simp))
    obtain ⟨A', c', rfl⟩ := own_ctor hown
    clear hown hgrow hat2 d0 d1 c0 c1 c2 f1
    go_wp2_with fail
    go_still_tail 12, (by kernel_rfl)
    change wpList _ _ _ _ _ w3.drew
    generalize w3.drew = w4 at *
    have hob : Obj.cells #[.slice A' n c', .int .i64 ((0 : Nat) : Int), .int .i64 ((S.base + (S.place + 2) : Nat) : Int), .int .i64 0, .int .i64 ((0 : Nat) : Int)] 142 = .cells #[.slice A' n c', .int .i64 0, .int .i64 ((S.base : Int) + (S.place : Int) + 2), .int .i64 0, .int .i64 0] 142 := by
      rw [show ((S.base + (S.place + 2) : Nat) : Int) = (S.base : Int) + (S.place : Int) + 2 by omega]
      rfl
    have hnw := isR_new 142 (w := w4) (vb := .slice A' n c') (S := ⟨S.part2 n, 0, S.base + (S.place + 2), 0, 0⟩) ⟨Nat.zero_le _, by show S.base + (S.place + 2) + (S.part2 n).length ≤ _; rw [HL.out]; omega, Nat.zero_le _, by show _ ≤ (0 : Int); omega, by show (0 : Int) ≤ _; omega⟩ (Rd.of_own HO.out) (plain_own HO.out) (ownsRow_lt HO.out)
    rw [hob] at hnw
    have HNW := Lib.hid hnw
    have hi5 := HI3.out.still ((Mods.refl [] w4).alloc (.cells #[.slice A' n c', .int .i64 0, .int .i64 ((S.base : Int) + (S.place : Int) + 2), .int .i64 0, .int .i64 0] 142))
    have HI5 := Lib.hid hi5
    obtain ⟨-, k1, -, -, -, g1, -, -⟩ := cell5 hi5.cells
    have HM5 := Lib.hid (HM3.out.alloc (.cells #[.slice A' n c', .int .i64 0, .int .i64 ((S.base : Int) + (S.place : Int) + 2), .int .i64 0, .int .i64 0] 142))
    clear hob hnw hi5 e1 e2
    go_wp2_with fail
    go_ret
    refine ⟨w4.heap.size, .slice A' n c', rfl, ?_, HM3.out.size, ?_, ?_, ?_⟩
    · refine HNW.out.mods (F := [a]) ((Mods.refl _ _).setCell (p := ⟨a, 1, none⟩) (Or.inl (by simp)) _) ?_ (fun k hk hm => ?_)
      · have := HM3.out.size
        simp only [List.mem_singleton]
        omega
      · have := (HO.out.lt k hk).1
        simp only [List.mem_singleton] at hm
        omega
    · intro k hk
      have h := HO.out.lt k hk
      exact Or.inr ⟨h.1, by simp; omega⟩
    · have h := HI5.out.goto (2 + n) hfit (y := (S.place : Int) + 2 + (n : Int)) (by omega)
      rw [← Nat.add_assoc] at h
      exact h
    · exact (mods_up HM5.out).setCell (p := ⟨a, 1, none⟩) (Or.inl (by simp)) _
  · rw [HN.out] at hm; simp at hm
theorem qpart_any {a : Nat} {S : RSt} {vb : Value} {w : World} (h : IsR 142 w a S vb) :
    Calls Tryz.prog 113 #[.pointer (some ⟨a, 0, none⟩)] w (PartP 142 w a vb S.part) := by
  cases hc : S.counted.1 with
  | none => exact qpart_none h hc
  | some n =>
    obtain ⟨h1, h2, h3, h4⟩ := counted_some hc
    obtain ⟨A, c, hvb, h5, h6⟩ := rd_slice h.b
    rcases h.pl with rfl | ⟨g, off, m, c', rfl⟩
    · injection hvb with _ e2 _
      simp [RSt.rest] at h3
      omega
    · injection hvb with e1 e2 e3
      subst e2
      exact qpart_full h n h1 h3 h4

end Go.Proofs.YtnpokdbpmnkbjaaGreatDoor
