/- Raw, of a writer and of a reader. | The walks of auth.step and auth.Sum, on both sides. | What may be can be written. | dump.Encode, walked. -/
import Derived.Test.YtmcekhgmmocajaaGreatDoorKn
import Derived.Test.YtmcekhgmmocajaaGreatDoorMo
import Derived.Test.YtmcekhgmmocajaaGreatDoorWu
import Derived.Test.YtmcekhgmmocajaaGreatDoorEf
import Derived.Test.YtmcekhgmmocajaaGreatDoorOd
import Derived.Lib.SlBytesConst
import Derived.Lib.BufferRead
namespace Go.Proofs.YtmcekhgmmocajaaGreatDoor
open Go.RowKit Me

/-- The bytes have been put behind, out of a world that may be another one. -/
theorem app_post {a : Nat} {S : WSt} {vb vo v' : Value} {w W w1 : World} {m : Nat} {bs : List UInt8} {news : List Value} {F : List Nat} (h : IsW 88 W a S vb vo) (hm : Mods F w W) (hF : ∀ k ∈ F, k ∈ foot a vb vo) (hg : W.grownBy w1 vb.ownBlock)
    (hown : w1.ownsRow 0 5 1 v' (S.bytes.length + m) (S.bytes.map byteV ++ news)) (hat : v'.ownBlock = vb.ownBlock ∨ v'.ownBlock = some W.heap.size) (hn : news = bs.map byteV) (hf : S.bytes.length + bs.length ≤ S.limit) :
    WPost 88 w a vb vo (S.add bs) (w1.setCell ⟨a, 1, none⟩ v') := by
  have h3 := h.app (by decide) hg hown hat hn hf
  refine WPost.of_b h3.1 ((hm.mono (fun k hk => Or.inl (hF k hk))).trans h3.2 (fun b hb => Or.inl hb)) ?_
  rcases hat with e | e
  · exact Or.inl e
  · exact Or.inr ⟨_, e, hm.size⟩

set_option maxRecDepth 100000 in
set_option maxHeartbeats 400000 in
theorem raw_fits {a : Nat} {S : WSt} {vb vo vx : Value} {w : World} (h : IsW 88 w a S vb vo) (bs : List UInt8) (hx : Rd w vx (bs.map byteV)) (he : S.err = 0) (hf : S.bytes.length + bs.length ≤ S.limit) :
    Calls Tryz.prog 25 #[.pointer (some ⟨a, 0, none⟩), vx] w fun e w' => e = .returned (.tuple #[]) ∧ WPost 88 w a vb vo (S.add bs) w' := by
  have hl1 := h.wf.limit
  have hsz : S.bytes.length + bs.length ≤ 100000000 := by omega
  obtain ⟨A, c, hxe⟩ := hx.slice
  obtain rfl := hxe
  have H := Lib.hid h
  have HX := Lib.hid hx
  have HE := Lib.hid he
  have HF := Lib.hid hf
  rw [List.length_map]
  clear h he hf hx hl1
  go_enter Tryz.func25, Tryz.ntmps25
  go_wp2_with fail
  refine (room_fits H.out bs.length (by omega) (by omega) HE.out (by have := HF.out; omega)).mono ?_; rintro e w1 ⟨rfl, k, rfl⟩
  obtain ⟨c0, c1, c2, c3, f1, f2, f3⟩ := cell4 (H.out.drewN k).cells
  obtain ⟨i0, hi, hz0, hz1, hz2⟩ := info_parts info5
  clear c0 c2 c3 f2 f3
  go_wp2_with (at_builtin; go_must (refine wpList_app _ rfl _ _ 22 22 rfl 0 5 i0 (.int .u8 0) 1 1 Tryz.underlying22 hi hz0 hz1 hz2 rfl _ _ _ rfl (H.out.drewN k).b _ bs.length (bs.map byteV) rfl ?c1 ?c2 ?c3 ?c4 ?_))
  case c1 =>
    have := (HX.out.mods ((Mods.refl [] _).drewN k) (by simp)).src Tryz.underlying22 (bytes_one bs)
    rwa [List.length_map] at this
  case c2 => unfold maxLen; omega
  case c3 => omega
  case c4 => exact Nat.zero_le _
  intro v' w1 hown hgrow hat2
  have d1 : w1.cell? ⟨a, 1, none⟩ = some vb ∧ w1.frozen? ⟨a, 1, none⟩ = false := by
    have hr := wrow (H.out.drewN k) (by decide)
    have ha : w1.heap[a]? = _ := (hgrow.block a (Array.getElem?_eq_some_iff.1 (H.out.drewN k).cells).1 (fun e => hr.1 e.symm)).trans (H.out.drewN k).cells
    obtain ⟨_, d1, _, _, g1, _⟩ := cell4 ha
    exact ⟨d1, g1⟩
  obtain ⟨d1, g1⟩ := d1
  obtain ⟨A', c', rfl⟩ := own_ctor hown
  have HR := Lib.hid (app_post (H.out.drewN k) ((Mods.refl [] w).drewN k) (by simp) hgrow hown hat2 rfl HF.out)
  clear hown hgrow hat2 c1 f1
  go_wp2_with fail
  go_end0
  exact ⟨rfl, HR.out⟩
set_option maxHeartbeats 400000 in
theorem raw_any {a : Nat} {S : WSt} {vb vo vx : Value} {w : World} (h : IsW 88 w a S vb vo) (bs : List UInt8) (hx : Rd w vx (bs.map byteV)) :
    Calls Tryz.prog 25 #[.pointer (some ⟨a, 0, none⟩), vx] w fun e w' => e = .returned (.tuple #[]) ∧ WPost 88 w a vb vo (S.put bs) w' := by
  by_cases he : S.err = 0
  · by_cases hf : S.limit < S.bytes.length + bs.length
    · rw [WSt.put_full _ he hf]
      have hbm : bs.length ≤ maxLen := by obtain ⟨A, c, _, h1, h2, _⟩ := hx; rw [List.length_map] at h1; omega
      unfold maxLen at hbm
      obtain ⟨A, c, hxe⟩ := hx.slice
      obtain rfl := hxe
      have H := Lib.hid h
      have HE := Lib.hid he
      have HF := Lib.hid hf
      rw [List.length_map]
      clear h he hf hx
      go_enter Tryz.func25, Tryz.ntmps25
      go_wp2_with fail
      refine (room_full H.out (by decide) bs.length (by omega) (by omega) HE.out (by have := HF.out; omega)).mono ?_; rintro e w1 ⟨rfl, hw, hm⟩
      have HW := Lib.hid hw
      have HM := Lib.hid hm
      clear hw hm
      go_wp2_with fail
      go_end0
      exact ⟨rfl, WPost.same HW.out HM.out (by simp [foot])⟩
    · rw [WSt.put_fits _ he hf]
      exact raw_fits h bs hx he (by omega)
  · rw [WSt.put_err _ he]
    obtain ⟨A, c, hxe⟩ := hx.slice
    obtain rfl := hxe
    have H := Lib.hid h
    have HE := Lib.hid he
    clear h he hx
    go_enter Tryz.func25, Tryz.ntmps25
    go_wp2_with fail
    refine (room_err H.out _ HE.out).mono ?_; rintro e w1 ⟨rfl, rfl⟩
    go_wp2_with fail
    go_end0
    exact ⟨rfl, WPost.same H.out (Mods.refl [] _) (by simp)⟩

/-- What raw gives back. -/
def RawPost (w : World) (a : Nat) (vb : Value) (r : List UInt8 × RSt) (e : Ending) (w' : World) : Prop :=
  ∃ v, e = .returned v ∧ w'.ownsRow w.heap.size 5 1 v r.1.length (r.1.map byteV) ∧ RPost 128 w a vb r.2 w'

set_option maxRecDepth 100000 in
set_option maxHeartbeats 1000000 in
theorem rraw_fits {a g off c : Nat} {S : RSt} {w : World} (h : IsR 128 w a S (.slice (some ⟨g, off, none⟩) S.bytes.length c)) (n : Nat) (he : S.err = 0) (hf : n ≤ S.rest.length) :
    Calls Tryz.prog 57 #[.pointer (some ⟨a, 0, none⟩), .int .i64 (n : Int)] w (RawPost w a (.slice (some ⟨g, off, none⟩) S.bytes.length c) (S.rest.take n, { S with place := S.place + n })) := by
  have hsz := h.wf.size
  have hpl := h.wf.place
  have hfit : S.place + n ≤ S.bytes.length := by simp [RSt.rest] at hf; omega
  have hln : (S.rest.take n).length = n := by simp; omega
  have hpt : ((S.bytes.map byteV).drop S.place).take n = (S.rest.take n).map byteV := by rw [RSt.rest, List.map_take, List.map_drop]
  have hrp := rd_part h.b (by simp) hfit
  rw [hpt] at hrp
  have HRP := Lib.hid hrp
  have hc : S.bytes.length ≤ c := by
    obtain ⟨A, c', e, h1, h2⟩ := rd_slice h.b
    cases e
    exact h1
  have hab : w.heap.size > a := by have := h.cells; exact (Array.getElem?_eq_some_iff.1 this).1
  have H := Lib.hid h
  have HE := Lib.hid he
  have HF := Lib.hid hf
  have HL := Lib.hid hln
  obtain ⟨c0, c1, c2, c3, c4, f1, f3, f4⟩ := cell5 h.cells
  clear h he hf hrp hpt hln
  have s1 : IntKind.i64.wrap ((S.place : Int) + (n : Int)) = (S.place : Int) + (n : Int) := IntWalk.i64_in _ (by omega)
  have s4 : ((S.place : Int) + (n : Int)).toNat = S.place + n := by omega
  have s6 : (S.place : Int) ≤ (S.place : Int) + (n : Int) := by omega
  have s7 : (S.place : Int) + (n : Int) ≤ (c : Int) := by omega
  have s8 : (0 : Int) ≤ (S.place : Int) + (n : Int) := by omega
  have s9 : S.place + n - S.place = n := by omega
  obtain ⟨i0, hi, hz0, hz1, hz2⟩ := info_parts info5
  go_enter Tryz.func57, Tryz.ntmps57
  go_wp2_with fail
  refine (has_fits H.out (n : Int) (by omega) (by omega) HE.out (by have := HF.out; omega)).mono ?_; rintro e w1 ⟨rfl, k, hk⟩
  have d0 : w1.cell? ⟨a, 0, none⟩ = some (.slice (some ⟨g, off, none⟩) S.bytes.length c) := by rw [← hk]; exact c0
  have d1 : w1.cell? ⟨a, 1, none⟩ = some (.int .i64 (S.place : Int)) := by rw [← hk]; exact c1
  have hm : Mods [] w w1.drew := by rw [← hk]; exact ((Mods.refl _ _).drewN k).drew
  have HM := Lib.hid hm
  clear hk hm
  go_wp2_with fail
  go_still_tail 15, (by kernel_rfl)
  change wpList _ _ _ _ _ w1.drew
  generalize w1.drew = w2 at *
  generalize hz : (Value.slice (if c = S.place then some ⟨g, off, none⟩ else some ⟨g, off + S.place, none⟩) n (c - S.place)) = zz at *
  have HZ := Lib.hid hz
  clear hz
  go_wp2_with (at_builtin; go_must (refine wpList_app _ rfl _ _ 22 22 rfl w.heap.size 5 i0 (.int .u8 0) 1 1 Tryz.underlying22 hi hz0 hz1 hz2 rfl (.slice none 0 0) 0 [] rfl (World.ownsRow_nil _ _ _ _) _ n ((S.rest.take n).map byteV) rfl ?c1 ?c2 ?c3 ?c4 ?_))
  case c1 =>
    have h := (HRP.out.mods HM.out (by simp)).src Tryz.underlying22 (bytes_one _)
    rw [List.length_map, HL.out] at h
    exact h
  case c2 => unfold maxLen; omega
  case c3 => omega
  case c4 => exact HM.out.size
  intro v' w3 hown hgrow hat2
  have HM2 := Lib.hid (HM.out.grown hgrow (by simp [Value.ownBlock]))
  have HI := Lib.hid (H.out.still HM2.out)
  obtain ⟨-, d1', -, -, -, g1, -, -⟩ := cell5 HI.out.cells
  have HO := Lib.hid hown
  clear hown hgrow hat2
  go_wp2_with fail
  go_ret
  refine ⟨v', rfl, ?_, HI.out.goto n hfit rfl, (mods_up HM2.out).setCell (p := ⟨a, 1, none⟩) (Or.inl (by simp)) _⟩
  have hS := ownsRow_mods (F := [a]) HO.out ((Mods.refl _ _).setCell (p := ⟨a, 1, none⟩) (Or.inl (by simp)) (.int .i64 ((S.place : Int) + (n : Int)))) (by
    intro b hb hm
    simp at hm
    subst hm
    have := (HO.out.lt b hb).1
    omega)
  rw [HL.out]
  simpa using hS
set_option maxRecDepth 100000 in
set_option maxHeartbeats 1000000 in
theorem rraw_nil {a : Nat} {S : RSt} {w : World} (h : IsR 128 w a S (.slice none 0 0)) (he : S.err = 0) (hp : S.place = 0) (hb : S.bytes = []) :
    Calls Tryz.prog 57 #[.pointer (some ⟨a, 0, none⟩), .int .i64 0] w (RawPost w a (.slice none 0 0) ([], S)) := by
  have H := Lib.hid h
  have HE := Lib.hid he
  have HPL := Lib.hid hp
  have hab : w.heap.size > a := by have := h.cells; exact (Array.getElem?_eq_some_iff.1 this).1
  have HP := Lib.hid (show S.place + 0 ≤ S.bytes.length by omega)
  have HR : S.rest = [] := by simp [RSt.rest, hb]
  have hf : (0 : Int) ≤ (S.rest.length : Int) := by rw [HR]; simp
  obtain ⟨c0, c1, c2, c3, c4, f1, f3, f4⟩ := cell5 h.cells
  rw [hp] at c1
  have s0 : IntKind.i64.wrap 0 = 0 := by decide
  clear h he hp hb HR
  obtain ⟨i0, hi, hz0, hz1, hz2⟩ := info_parts info5
  go_enter Tryz.func57, Tryz.ntmps57
  go_wp2_with fail
  refine (has_fits H.out 0 (by omega) (by omega) HE.out hf).mono ?_; rintro e w1 ⟨rfl, k, hk⟩
  have d0 : w1.cell? ⟨a, 0, none⟩ = some (.slice none 0 0) := by rw [← hk]; exact c0
  have d1 : w1.cell? ⟨a, 1, none⟩ = some (.int .i64 0) := by rw [← hk]; exact c1
  have hm : Mods [] w w1.drew := by rw [← hk]; exact ((Mods.refl _ _).drewN k).drew
  have HM := Lib.hid hm
  clear hk hm
  go_wp2_with fail
  go_still_tail 15, (by kernel_rfl)
  change wpList _ _ _ _ _ w1.drew
  generalize w1.drew = w2 at *
  go_wp2_with (at_builtin; go_must (refine wpList_app _ rfl _ _ 22 22 rfl w.heap.size 5 i0 (.int .u8 0) 1 1 Tryz.underlying22 hi hz0 hz1 hz2 rfl (.slice none 0 0) 0 [] rfl (World.ownsRow_nil _ _ _ _) _ 0 [] rfl ?c1 ?c2 ?c3 ?c4 ?_))
  case c1 => exact Src.ofNil _ Tryz.underlying22 _
  case c2 => unfold maxLen; omega
  case c3 => omega
  case c4 => exact HM.out.size
  intro v' w3 hown hgrow hat2
  have HM2 := Lib.hid (HM.out.grown hgrow (by simp [Value.ownBlock]))
  have HI := Lib.hid (H.out.still HM2.out)
  obtain ⟨-, -, -, -, -, g1, -, -⟩ := cell5 HI.out.cells
  have d1' : w3.cell? ⟨a, 1, none⟩ = some (.int .i64 0) := by
    have := (cell5 HI.out.cells).2.1
    rw [this, HPL.out]
    rfl
  have HO := Lib.hid hown
  clear hown hgrow hat2
  go_wp2_with fail
  go_ret
  refine ⟨v', rfl, ?_, HI.out.goto 0 HP.out (by rw [HPL.out]; rfl), (mods_up HM2.out).setCell (p := ⟨a, 1, none⟩) (Or.inl (by simp)) _⟩
  have hS := ownsRow_mods (F := [a]) HO.out ((Mods.refl _ _).setCell (p := ⟨a, 1, none⟩) (Or.inl (by simp)) (.int .i64 0)) (by
    intro b hb hm
    simp at hm
    subst hm
    have := (HO.out.lt b hb).1
    omega)
  simpa using hS
theorem rraw_any {a : Nat} {S : RSt} {vb : Value} {w : World} (h : IsR 128 w a S vb) (n : Int) (hn1 : -9223372036854775808 ≤ n) (hn2 : n ≤ 9223372036854775807) :
    Calls Tryz.prog 57 #[.pointer (some ⟨a, 0, none⟩), .int .i64 n] w (RawPost w a vb (S.raw n)) := by
  unfold RSt.raw
  have hpl := h.wf.place
  by_cases hn : n < 0
  · have hw : (if S.err ≠ 0 then (([] : List UInt8), S) else if n < 0 then ([], S.wrong 1 0) else if (S.rest.length : Int) < n then ([], S.wrong 10 0) else (S.rest.take n.toNat, { S with place := S.place + n.toNat })) = ([], S.wrong 1 0) := by
      by_cases he : S.err ≠ 0
      · rw [if_pos he]; unfold RSt.wrong; rw [if_neg (by simp [he])]
      · rw [if_neg he, if_pos hn]
    rw [hw]
    have H := Lib.hid (wrong_any h 1 0 (by omega) (by omega) (by omega))
    clear h hw
    go_enter Tryz.func57, Tryz.ntmps57
    go_wp2_with fail
    refine H.out.mono ?_; rintro e w1 ⟨rfl, hr⟩
    have HR := Lib.hid hr
    clear hr
    go_wp2_with fail
    go_ret
    exact ⟨_, rfl, World.ownsRow_nil _ _ _ _, HR.out⟩
  · by_cases he : S.err ≠ 0
    · rw [if_pos he]
      have H := Lib.hid (has_err h n (by omega) (by omega) he)
      have HI := Lib.hid h
      clear h he
      go_enter Tryz.func57, Tryz.ntmps57
      go_wp2_with fail
      refine H.out.mono ?_; rintro e w1 ⟨rfl, rfl⟩
      go_wp2_with fail
      go_ret
      exact ⟨_, rfl, World.ownsRow_nil _ _ _ _, RPost.self HI.out⟩
    · rw [if_neg he, if_neg hn]
      by_cases hf : (S.rest.length : Int) < n
      · rw [if_pos hf]
        have H := Lib.hid (has_short h n (by omega) (by omega) (by simpa using he) hf)
        clear h he hf
        go_enter Tryz.func57, Tryz.ntmps57
        go_wp2_with fail
        refine H.out.mono ?_; rintro e w1 ⟨rfl, hr⟩
        have HR := Lib.hid hr
        clear hr
        go_wp2_with fail
        go_ret
        exact ⟨_, rfl, World.ownsRow_nil _ _ _ _, HR.out⟩
      · rw [if_neg hf]
        obtain ⟨A, c, hvb, h1, h2⟩ := rd_slice h.b
        have hz : n = (n.toNat : Int) := by omega
        have he' : S.err = 0 := by simpa using he
        rcases h.pl with rfl | ⟨g, off, m, c', rfl⟩
        · injection hvb with _ e2 _
          have hb : S.bytes = [] := List.eq_nil_of_length_eq_zero e2.symm
          have hp : S.place = 0 := by rw [hb] at hpl; simpa using hpl
          have hr : S.rest = [] := by simp [RSt.rest, hb]
          have h0 : n = 0 := by rw [hr] at hf; simp at hf; omega
          have := rraw_nil h he' hp hb
          rw [h0, hr]
          exact this
        · injection hvb with e1 e2 e3
          subst e2
          have := rraw_fits h n.toNat he' (by omega)
          rw [← hz] at this
          exact this
end Go.Proofs.YtmcekhgmmocajaaGreatDoor
namespace Go.Proofs.YtmcekhgmmocajaaGreatDoor
open Go.RowKit Me

theorem mul_wrap (x : Nat) : IntKind.u64.wrap ((x : Int) * 11800147728694460525) = ((mulS x : Nat) : Int) := by
  rw [IntKind.wrap_u64]
  unfold mulS
  omega
theorem sh_eq (y : Nat) (h : y < 18446744073709551616) : bits .xor .u64 (y : Int) ((y : Int) / 536870912) = ((shS y : Nat) : Int) := by
  rw [show (y : Int) / 536870912 = ((y / 536870912 : Nat) : Int) by omega, u64_xor_nat y _ h (by omega)]
  unfold shS
  rw [Nat.shiftRight_eq_div_pow]
theorem step_eq (h n : Nat) (hh : h < 18446744073709551616) (hn : n < 18446744073709551616) :
    bits .xor .u64 (IntKind.u64.wrap (bits .xor .u64 (h : Int) (n : Int) * 11800147728694460525)) (IntKind.u64.wrap (bits .xor .u64 (h : Int) (n : Int) * 11800147728694460525) / 536870912) = ((stepS h n : Nat) : Int) := by
  rw [u64_xor_nat h n hh hn, mul_wrap, sh_eq _ (mulS_lt _)]
  rfl
theorem step_any (h n : Nat) (w : World) (hh : h < 18446744073709551616) (hn : n < 18446744073709551616) :
    Calls Tryz.prog 55 #[.int .u64 (h : Int), .int .u64 (n : Int)] w fun x w' => x = .returned (.int .u64 (stepS h n : Nat)) ∧ w' = w := by
  have HS := Lib.hid (step_eq h n hh hn)
  go_enter Tryz.func55, Tryz.ntmps55
  go_wp2_with fail
  go_ret
  exact ⟨by rw [← HS.out]; rfl, rfl⟩
theorem rstep_any (h n : Nat) (w : World) (hh : h < 18446744073709551616) (hn : n < 18446744073709551616) :
    Calls Tryz.prog 102 #[.int .u64 (h : Int), .int .u64 (n : Int)] w fun x w' => x = .returned (.int .u64 (stepS h n : Nat)) ∧ w' = w := by
  have HS := Lib.hid (step_eq h n hh hn)
  go_enter Tryz.func102, Tryz.ntmps102
  go_wp2_with fail
  go_ret
  exact ⟨by rw [← HS.out]; rfl, rfl⟩

theorem sumF_nil (h : Nat) : sumF [] h = h := rfl
theorem sumF_next (s : ByteArray) (k : Nat) (h : k < s.size) : sumF (s.data.toList.take (k + 1)) 7880330927811272263 = stepS (sumF (s.data.toList.take k) 7880330927811272263) (s[k].toNat + 1) := by
  have hk : s.data.toList[k]? = some s[k] := by
    rw [Array.getElem?_toList]
    exact Array.getElem?_eq_getElem h
  rw [List.take_add_one, hk, sumF_append, Option.toList_some, sumF_cons, sumF_nil]
theorem sumD_eq (s : ByteArray) : sumD s.data.toList = stepS (stepS (sumF (s.data.toList.take s.size) 7880330927811272263) s.size) 0 := by
  unfold sumD
  rw [List.take_of_length_le (by simp), Array.length_toList]
  rfl
def RelSu (s : ByteArray) (w : World) (h i : Value) (wr : World) : Prop :=
  ∃ k : Nat, k ≤ s.size ∧ i = .int .i64 k ∧ h = .int .u64 (sumF (s.data.toList.take k) 7880330927811272263 : Nat) ∧ w = wr
set_option maxRecDepth 100000 in
theorem sum_any (s : ByteArray) (w : World) (hs : s.size ≤ 9223372036854775807) :
    Calls Tryz.prog 30 #[.string s, .slice none 0 0] w fun x w' => x = .returned (.int .u64 (sumD s.data.toList : Nat)) ∧ w' = w := by
  have HST := Lib.hid (fun h n w hh hn => step_any h n w hh hn)
  go_enter Tryz.func30, Tryz.ntmps30
  go_wp2_with fail
  go_loopw [5, 11] (fun h i wr => RelSu s w h i wr) (fun _ i _ => s.size - (intOf i).toNat)
  case atStart => exact ⟨0, by omega, rfl, by simp [sumF], rfl⟩
  case round =>
    obtain ⟨k, hk, rfl, rfl, rfl⟩ := hrel
    have HLT := Lib.hid (sumF_lt (s.data.toList.take k) (show (7880330927811272263 : Nat) < 18446744073709551616 by decide))
    rcases Nat.lt_or_ge k s.size with hlt | hge
    · have hb := s[k].toNat_lt
      have HN := Lib.hid (sumF_next s k hlt)
      generalize hb0 : sumF (s.data.toList.take k) 7880330927811272263 = q at *
      have HH := HST.out q (s[k].toNat + 1) w HLT.out (by omega)
      have e1 : ((s[k].toNat + 1 : Nat) : Int) = (s[k].toNat : Int) + 1 := by omega
      rw [e1] at HH
      have HN2 : Hid (stepS q (s[k].toNat + 1) = sumF (s.data.toList.take (k + 1)) 7880330927811272263) := Lib.hid HN.out.symm
      generalize stepS q (s[k].toNat + 1) = q2 at *
      have HC := Lib.hid HH
      clear HH HN HLT hb0
      go_wp2_with fail
      refine HC.out.mono ?_
      rintro x w1 ⟨rfl, rfl⟩
      go_wp2_with fail
      exact ⟨⟨k + 1, by omega, rfl, by rw [HN2.out], rfl⟩, by simp only [intOf]; omega⟩
    · obtain rfl : k = s.size := by omega
      have HD := Lib.hid (sumD_eq s)
      generalize sumF (s.data.toList.take s.size) 7880330927811272263 = q at *
      have HS1 := Lib.hid (HST.out q s.size w HLT.out (by omega))
      have HS2 := Lib.hid (HST.out (stepS q s.size) 0 w (stepS_lt _ _) (by omega))
      generalize stepS (stepS q s.size) 0 = z2 at *
      generalize stepS q s.size = z1 at *
      have hsz : ((s.size : Int) % 18446744073709551616) = (s.size : Int) := by omega
      go_wp2_with fail
      refine HS1.out.mono ?_
      rintro x w1 ⟨rfl, rfl⟩
      go_wp2_with fail
      go_loopw [5, 29] (fun h i wr => h = .int .u64 (z1 : Nat) ∧ i = .int .i64 0 ∧ w1 = wr) (fun _ _ _ => 0)
      case atStart => exact ⟨rfl, rfl, rfl⟩
      case round =>
        obtain ⟨rfl, rfl, rfl⟩ := hrel
        go_wp2_with fail
        refine HS2.out.mono ?_
        rintro x w2 ⟨rfl, rfl⟩
        go_wp2_with fail
        go_ret
        exact ⟨by rw [HD.out]; rfl, rfl⟩
set_option maxRecDepth 100000 in
theorem rsum_any (s : ByteArray) (w : World) (hs : s.size ≤ 9223372036854775807) :
    Calls Tryz.prog 69 #[.string s, .slice none 0 0] w fun x w' => x = .returned (.int .u64 (sumD s.data.toList : Nat)) ∧ w' = w := by
  have HST := Lib.hid (fun h n w hh hn => rstep_any h n w hh hn)
  go_enter Tryz.func69, Tryz.ntmps69
  go_wp2_with fail
  go_loopw [5, 6] (fun h i wr => RelSu s w h i wr) (fun _ i _ => s.size - (intOf i).toNat)
  case atStart => exact ⟨0, by omega, rfl, by simp [sumF], rfl⟩
  case round =>
    obtain ⟨k, hk, rfl, rfl, rfl⟩ := hrel
    have HLT := Lib.hid (sumF_lt (s.data.toList.take k) (show (7880330927811272263 : Nat) < 18446744073709551616 by decide))
    rcases Nat.lt_or_ge k s.size with hlt | hge
    · have hb := s[k].toNat_lt
      have HN := Lib.hid (sumF_next s k hlt)
      generalize hb0 : sumF (s.data.toList.take k) 7880330927811272263 = q at *
      have HH := HST.out q (s[k].toNat + 1) w HLT.out (by omega)
      have e1 : ((s[k].toNat + 1 : Nat) : Int) = (s[k].toNat : Int) + 1 := by omega
      rw [e1] at HH
      have HN2 : Hid (stepS q (s[k].toNat + 1) = sumF (s.data.toList.take (k + 1)) 7880330927811272263) := Lib.hid HN.out.symm
      generalize stepS q (s[k].toNat + 1) = q2 at *
      have HC := Lib.hid HH
      clear HH HN HLT hb0
      go_wp2_with fail
      refine HC.out.mono ?_
      rintro x w1 ⟨rfl, rfl⟩
      go_wp2_with fail
      exact ⟨⟨k + 1, by omega, rfl, by rw [HN2.out], rfl⟩, by simp only [intOf]; omega⟩
    · obtain rfl : k = s.size := by omega
      have HD := Lib.hid (sumD_eq s)
      generalize sumF (s.data.toList.take s.size) 7880330927811272263 = q at *
      have HS1 := Lib.hid (HST.out q s.size w HLT.out (by omega))
      have HS2 := Lib.hid (HST.out (stepS q s.size) 0 w (stepS_lt _ _) (by omega))
      generalize stepS (stepS q s.size) 0 = z2 at *
      generalize stepS q s.size = z1 at *
      have hsz : ((s.size : Int) % 18446744073709551616) = (s.size : Int) := by omega
      go_wp2_with fail
      refine HS1.out.mono ?_
      rintro x w1 ⟨rfl, rfl⟩
      go_wp2_with fail
      go_loopw [5, 7] (fun h i wr => h = .int .u64 (z1 : Nat) ∧ i = .int .i64 0 ∧ w1 = wr) (fun _ _ _ => 0)
      case atStart => exact ⟨rfl, rfl, rfl⟩
      case round =>
        obtain ⟨rfl, rfl, rfl⟩ := hrel
        go_wp2_with fail
        refine HS2.out.mono ?_
        rintro x w2 ⟨rfl, rfl⟩
        go_wp2_with fail
        go_ret
        exact ⟨by rw [HD.out]; rfl, rfl⟩
end Go.Proofs.YtmcekhgmmocajaaGreatDoor
namespace Go.Proofs.YtmcekhgmmocajaaGreatDoor
open Go.RowKit Me

theorem good_join : ∀ (l : List ByteArray), (∀ p ∈ l, Tx.good p.data.toList = true) → Tx.good (joinS l) = true
  | [], _ => Tx.good_nil
  | [p], h => by rw [joinS_one]; exact h p (by simp)
  | p :: q :: l, h => by
    rw [joinS_cons2, Tx.good_append _ _ (h p (by simp))]
    have e : (47 : UInt8) :: joinS (q :: l) = [47] ++ joinS (q :: l) := rfl
    rw [e, Tx.good_append _ _ (by decide)]
    exact good_join (q :: l) (fun x hx => h x (by simp [hx]))
theorem good_piece {p : ByteArray} (h : (skipP p || fineP p) = true) : Tx.good p.data.toList = true := by
  unfold skipP fineP at h
  rw [Lib.toList_data] at h
  simp only [Bool.or_eq_true, List.isEmpty_iff, beq_iff_eq] at h
  rcases h with (h | h) | (h | h)
  · rw [h]; decide
  · rw [h]; decide
  · rw [h]; decide
  · unfold nameOk at h
    simp only [Bool.and_eq_true] at h
    exact h.2
theorem good_fit {s : ByteArray} (h : fit (pieces s) = true) : Tx.good s.data.toList = true := by
  rw [← joinS_pieces]
  refine good_join _ fun p hp => good_piece ?_
  unfold fit at h
  exact List.all_eq_true.1 h p hp
theorem may_fine {e : EntP} (hf : e.Fits) (h : mayE e = true) : e.Fine := by
  unfold mayE pathOk gidOk at h
  simp only [Bool.and_eq_true, decide_eq_true_eq] at h
  obtain ⟨⟨hp, _⟩, ⟨⟨hm, hg, hg2⟩, hd⟩, hps⟩ := h
  refine ⟨hf, textErr_of ?_ (good_fit hp.1.1.1.1), textErr_of ?_ hg, hd⟩
  · simp only [Array.length_toList, ByteArray.size_data]; omega
  · simp only [Array.length_toList, ByteArray.size_data]; omega
end Go.Proofs.YtmcekhgmmocajaaGreatDoor
namespace Go.Proofs.YtmcekhgmmocajaaGreatDoor
open Go.RowKit Me

theorem OwnW.call {w0 w : World} {a : Nat} {S S' : WSt} (h : OwnW 88 w0 w a S) {f : FuncId} {args : Array Value}
    (hc : ∀ vb vo, IsW 88 w a S vb vo → Calls Tryz.prog f args w fun e w' => e = .returned (.tuple #[]) ∧ WPost 88 w a vb vo S' w') :
    Calls Tryz.prog f args w fun e w' => e = .returned (.tuple #[]) ∧ OwnW 88 w0 w' a S' := by
  obtain ⟨h0, vb, vo, h1, h2⟩ := h
  exact (hc vb vo h1).mono fun e w' hh => ⟨hh.1, OwnW.next h0 h2 hh.2⟩
theorem OwnW.raw {w0 w : World} {a : Nat} {S : WSt} (h : OwnW 88 w0 w a S) (bs : List UInt8) {vx : Value} (hx : Rd w vx (bs.map byteV)) :
    Calls Tryz.prog 25 #[.pointer (some ⟨a, 0, none⟩), vx] w fun e w' => e = .returned (.tuple #[]) ∧ OwnW 88 w0 w' a (S.put bs) := h.call fun _ _ hi => raw_any hi bs hx
theorem OwnW.u32 {w0 w : World} {a : Nat} {S : WSt} (h : OwnW 88 w0 w a S) (n : Nat) (hn : n < 4294967296) :
    Calls Tryz.prog 26 #[.pointer (some ⟨a, 0, none⟩), .int .u32 (n : Int)] w fun e w' => e = .returned (.tuple #[]) ∧ OwnW 88 w0 w' a (S.put (le n 4)) := h.call fun _ _ hi => u32_any hi n hn
theorem OwnW.u64 {w0 w : World} {a : Nat} {S : WSt} (h : OwnW 88 w0 w a S) (n : Nat) (hn : n < 18446744073709551616) :
    Calls Tryz.prog 29 #[.pointer (some ⟨a, 0, none⟩), .int .u64 (n : Int)] w fun e w' => e = .returned (.tuple #[]) ∧ OwnW 88 w0 w' a (S.put (le n 8)) := h.call fun _ _ hi => u64_any hi n (by rw [IntKind.wrap_u64]; omega)
theorem OwnW.text {w0 w : World} {a : Nat} {S : WSt} (h : OwnW 88 w0 w a S) (s : ByteArray) (hs : s.size ≤ maxLen) (hT : Tabs w) :
    Calls Tryz.prog 27 #[.pointer (some ⟨a, 0, none⟩), .string s] w fun e w' => e = .returned (.tuple #[]) ∧ OwnW 88 w0 w' a (S.text s.data.toList) := h.call fun _ _ hi => text_any hi s hs hT.u
/-- A writer of one's own, beside a block that stays. -/
def OwnX (w0 w : World) (a : Nat) (S : WSt) (bx : Nat) (o : Obj) : Prop := Mods [] w0 w ∧ w.heap[bx]? = some o ∧ ∃ vb vo, IsW 88 w a S vb vo ∧ ∀ k ∈ foot a vb vo, w0.heap.size ≤ k ∧ k ≠ bx
theorem OwnX.call {w0 w : World} {a bx : Nat} {S S' : WSt} {o : Obj} (h : OwnX w0 w a S bx o) {f : FuncId} {args : Array Value}
    (hc : ∀ vb vo, IsW 88 w a S vb vo → Calls Tryz.prog f args w fun e w' => e = .returned (.tuple #[]) ∧ WPost 88 w a vb vo S' w') :
    Calls Tryz.prog f args w fun e w' => e = .returned (.tuple #[]) ∧ OwnX w0 w' a S' bx o := by
  obtain ⟨h0, hb, vb, vo, h1, h2⟩ := h
  refine (hc vb vo h1).mono fun e w' hh => ⟨hh.1, ?_⟩
  obtain ⟨vb', vo', k1, k2, k3⟩ := hh.2
  refine ⟨h0.trans k2 (fun b hb => Or.inr (h2 b hb).1), k2.heap hb (fun hm => (h2 bx hm).2 rfl), vb', vo', k1, fun k hk => ?_⟩
  rcases k3 k hk with h | h
  · exact h2 k h
  · have := (Array.getElem?_eq_some_iff.1 hb).1
    exact ⟨Nat.le_trans h0.size h, by omega⟩
theorem OwnX.raw {w0 w : World} {a bx : Nat} {S : WSt} {o : Obj} (h : OwnX w0 w a S bx o) (bs : List UInt8) {vx : Value} (hx : Rd w vx (bs.map byteV)) :
    Calls Tryz.prog 25 #[.pointer (some ⟨a, 0, none⟩), vx] w fun e w' => e = .returned (.tuple #[]) ∧ OwnX w0 w' a (S.put bs) bx o := h.call fun _ _ hi => raw_any hi bs hx
theorem OwnX.u32 {w0 w : World} {a bx : Nat} {S : WSt} {o : Obj} (h : OwnX w0 w a S bx o) (n : Nat) (hn : n < 4294967296) :
    Calls Tryz.prog 26 #[.pointer (some ⟨a, 0, none⟩), .int .u32 (n : Int)] w fun e w' => e = .returned (.tuple #[]) ∧ OwnX w0 w' a (S.put (le n 4)) bx o := h.call fun _ _ hi => u32_any hi n hn
theorem OwnX.text {w0 w : World} {a bx : Nat} {S : WSt} {o : Obj} (h : OwnX w0 w a S bx o) (s : ByteArray) (hs : s.size ≤ maxLen) (hT : Tabs w) :
    Calls Tryz.prog 27 #[.pointer (some ⟨a, 0, none⟩), .string s] w fun e w' => e = .returned (.tuple #[]) ∧ OwnX w0 w' a (S.text s.data.toList) bx o := h.call fun _ _ hi => text_any hi s hs hT.u
theorem foot_lt {w : World} {a : Nat} {S : WSt} {vb vo : Value} (h : IsW 88 w a S vb vo) : ∀ k ∈ foot a vb vo, k < w.heap.size := by
  intro k hk
  rcases mem_foot.1 hk with rfl | hk | hk
  · exact (Array.getElem?_eq_some_iff.1 h.cells).1
  · exact ownsRow_lt h.b k hk
  · exact ownsRow_lt h.o k hk
theorem OwnW.box {w0 w : World} {a : Nat} {S : WSt} (h : OwnW 88 w0 w a S) (cs : Array Value) (t : TypeId) : OwnX w0 (w.alloc (.cells cs t)) a S w.heap.size (.cells cs t) := by
  have hm := (Mods.refl [] w).alloc (.cells cs t)
  obtain ⟨h0, vb, vo, h1, h2⟩ := h
  exact ⟨h0.trans hm (by simp), heap_alloc_new w _, vb, vo, h1.mods hm (by simp), fun k hk => ⟨h2 k hk, by have := foot_lt h1 k hk; omega⟩⟩
theorem OwnX.toW {w0 w : World} {a bx : Nat} {S : WSt} {o : Obj} (h : OwnX w0 w a S bx o) : OwnW 88 w0 w a S := by
  obtain ⟨h0, _, vb, vo, h1, h2⟩ := h
  exact ⟨h0, vb, vo, h1, fun k hk => (h2 k hk).1⟩
theorem OwnX.cell {w0 w : World} {a bx : Nat} {S : WSt} {e : EntP} {vd : Value} (h : OwnX w0 w a S bx (.cells #[.string e.path, .int .u32 (e.mode : Int), .int .u32 (e.mtime : Int), .string e.gid, vd] 47)) :
    w.cell? ⟨bx, 0, none⟩ = some (.string e.path) ∧ w.cell? ⟨bx, 1, none⟩ = some (.int .u32 (e.mode : Int)) ∧ w.cell? ⟨bx, 2, none⟩ = some (.int .u32 (e.mtime : Int)) ∧ w.cell? ⟨bx, 3, none⟩ = some (.string e.gid) ∧ w.cell? ⟨bx, 4, none⟩ = some vd := by
  refine ⟨?_, ?_, ?_, ?_, ?_⟩ <;> rw [cell_of_row _ _ _ _ _ _ h.2.1] <;> rfl
theorem conv_rd {w : World} {v : Value} {l : List UInt8} (h : Rd w v (l.map byteV)) : (convert 22 9 v).run Tryz.prog w = .ok (.string ⟨l.toArray⟩) w := by
  obtain ⟨A, c, hv, -, -, h3⟩ := h
  rw [List.length_map] at hv
  subst hv
  rcases A with _ | ad
  · have hl0 : l = [] := by
      rcases l with _ | ⟨x, l⟩
      · rfl
      · obtain ⟨g, off, e2, -⟩ := h3 0 (byteV x) rfl
        cases e2
    subst hl0
    exact Lib.run_convert_nil_bytes w 22 9 5 c Tryz.underlying22 Tryz.underlying5 Tryz.underlying9
  · rcases l with _ | ⟨x, l⟩
    · have h := run_convert_bytes_string (P := Tryz.prog) w 22 9 5 (some ad) 0 c Tryz.underlying22 Tryz.underlying5 Tryz.underlying9
      show (convert 22 9 (.slice (some ad) 0 c)).run Tryz.prog w = _
      rw [h]
      rfl
    · obtain ⟨g, off, e2, -⟩ := h3 0 (byteV x) rfl
      cases e2
      exact conv_bytes c (x :: l) (fun j b hj => by
        obtain ⟨g', off', e3, h4⟩ := h3 j (byteV b) (by rw [List.getElem?_map, hj]; rfl)
        cases e3
        exact h4)
theorem done_of {S : WSt} (h : S.err = 0) (ho : S.opens = []) : S.done = (S.bytes, 0) := by
  unfold WSt.done
  rw [if_neg (by omega), if_neg (by simpa using ho)]
theorem done_err {S : WSt} (h : S.err ≠ 0) : S.done = ([], S.err) := by
  unfold WSt.done
  rw [if_pos h]
/-- What Encode tells. -/
def encP (L : List EntP) : List UInt8 × Nat :=
  if L = [] ∨ L.all mayE = false then ([], 210) else if ordE L = false then ([], 211) else if 16777216 < 19 + sizeL L then ([], 11) else (fullD L, 0)
def baseD (n : Nat) : WSt := ((WSt.new 16777216).put headD).put (le n 4)
def RelEn (w : World) (L : List EntP) (a : Nat) (i : Value) (wr : World) : Prop :=
  ∃ k : Nat, k ≤ L.length ∧ i = .int .i64 k ∧ OwnW 88 w wr a ((baseD L.length).entries (L.take k))
def EncPost (w : World) (r : List UInt8 × Nat) (e : Ending) (w' : World) : Prop :=
  ∃ v, e = .returned (.tuple #[v, .int .i64 (r.2 : Int)]) ∧ w'.ownsRow w.heap.size 5 1 v r.1.length (r.1.map byteV) ∧ Mods [] w w'
set_option maxRecDepth 100000 in
set_option maxHeartbeats 2000000 in
theorem encode_any {w : World} (L : List EntP) {v : Value} (h : Ents w v L) (hz : ∀ e ∈ L, Small e) (hlen : L.length ≤ 100000000) (hT : Tabs w) :
    Calls Tryz.prog 6 #[v] w (EncPost w (encP L)) := by
  have H := Lib.hid h
  have HZ := Lib.hid hz
  have H1 := Lib.hid (containsfunc_any L h hz hT)
  have H2 := Lib.hid (fun w' (hw : Mods [] w w') => ordered_any L (h.mods hw) hz (hT.mods hw))
  have HQ := Lib.hid (show encP L = if L = [] ∨ L.all mayE = false then ([], 210) else if ordE L = false then ([], 211) else if 16777216 < 19 + sizeL L then ([], 11) else (fullD L, 0) from rfl)
  obtain ⟨A, c, rfl, -⟩ := h
  clear hz
  by_cases h0 : L = []
  · subst h0
    have HE : Hid (encP [] = ([], 210)) := Lib.hid rfl
    rw [HE.out]
    clear HQ H1 H2
    simp only [List.length_nil] at *
    go_enter Tryz.func6, Tryz.ntmps6
    go_wp2_with fail
    go_ret2
    exact ⟨_, rfl, World.ownsRow_nil _ _ _ _, Mods.refl _ _⟩
  have hne : (((L.length : Int) == 0) = false) := by
    simp
    exact h0
  cases hall : L.all mayE
  · have HE : Hid (encP L = ([], 210)) := Lib.hid (by rw [HQ.out, if_pos (Or.inr hall)])
    rw [HE.out]
    rw [hall] at H1
    clear HQ H2
    go_enter Tryz.func6, Tryz.ntmps6
    go_wp2_with fail
    refine H1.out.mono ?_
    rintro x w1 ⟨rfl, hm⟩
    have HM := Lib.hid hm
    clear hm
    go_wp2_with fail
    go_ret2
    exact ⟨_, rfl, World.ownsRow_nil _ _ _ _, HM.out⟩
  rw [hall] at H1
  cases hord : ordE L
  · have HE : Hid (encP L = ([], 211)) := Lib.hid (by rw [HQ.out, if_neg (by simp [h0, hall]), if_pos hord])
    rw [HE.out]
    rw [hord] at H2
    clear HQ
    go_enter Tryz.func6, Tryz.ntmps6
    go_wp2_with fail
    refine H1.out.mono ?_
    rintro x w1 ⟨rfl, hm⟩
    have HM := Lib.hid hm
    clear hm
    go_wp2_with fail
    refine (H2.out _ HM.out).mono ?_
    rintro x w2 ⟨rfl, hm⟩
    have HM2 := Lib.hid (HM.out.trans hm (by simp))
    clear hm
    go_wp2_with fail
    go_ret2
    exact ⟨_, rfl, World.ownsRow_nil _ _ _ _, HM2.out⟩
  rw [hord] at H2
  have kc := fun (w : World) (C : Array Value) (n c : Nat) => Lib.run_convert_bytes_const (P := Tryz.prog) w 22 5 C n c Tryz.underlying22 Tryz.underlying5
  go_enter Tryz.func6, Tryz.ntmps6
  go_wp2_with fail
  refine H1.out.mono ?_
  rintro x w1 ⟨rfl, hm⟩
  have HM := Lib.hid hm
  clear hm
  go_wp2_with fail
  refine (H2.out _ HM.out).mono ?_
  rintro x w2 ⟨rfl, hm⟩
  have HM2 := Lib.hid (HM.out.trans hm (by simp))
  clear hm HM H1 H2
  go_wp2_with fail
  refine (newWriter_ok 16777216 w2 (Nat.le_refl _)).mono ?_
  rintro x w3 ⟨rfl, hi, hm⟩
  have HW3 : Hid (OwnW 88 w w3 w2.heap.size (WSt.new 16777216)) := Lib.hid ⟨HM2.out.trans hm (by simp), _, _, hi, fun k hk => by
    have := HM2.out.size
    simp [foot, Value.ownBlock] at hk
    omega⟩
  generalize w2.heap.size = a at *
  clear hm hi
  have HW4 := Lib.hid (HW3.out.still ((Mods.refl [] w3).alloc (.cells #[.int .u8 118, .int .u8 100, .int .u8 117, .int .u8 109, .int .u8 112, .int .u8 49, .int .u8 10] 5 (7, 8))))
  have HR : Hid (Rd (w3.alloc (.cells #[.int .u8 118, .int .u8 100, .int .u8 117, .int .u8 109, .int .u8 112, .int .u8 49, .int .u8 10] 5 (7, 8))) (.slice (some ⟨w3.heap.size, 0, none⟩) 7 7) (headD.map byteV)) := Lib.hid (by
    refine ⟨_, 7, rfl, Nat.le_refl _, by unfold maxLen; decide, fun j u hu => ⟨w3.heap.size, 0, rfl, ?_⟩⟩
    rw [cell_of_row _ _ _ _ _ _ (heap_alloc_new w3 _)]
    simpa [headD, byteV] using hu)
  go_wp2_with fail
  generalize w3.alloc (.cells #[.int .u8 118, .int .u8 100, .int .u8 117, .int .u8 109, .int .u8 112, .int .u8 49, .int .u8 10] 5 (7, 8)) = w4 at *
  refine (HW4.out.raw headD HR.out).mono ?_
  rintro x w5 ⟨rfl, hw⟩
  have HW5 := Lib.hid hw
  clear hw HW3 HW4 HR
  have hcv : (L.length : Int) % 4294967296 = (L.length : Int) := by omega
  go_wp2_with fail
  refine (HW5.out.u32 L.length (by omega)).mono ?_
  rintro x w6 ⟨rfl, hw⟩
  have HW6 := Lib.hid hw
  clear hw HW5
  go_wp2_with fail
  go_loopw [35] (fun i wr => RelEn w L a i wr) (fun i _ => L.length - (intOf i).toNat)
  case atStart => exact ⟨0, by omega, rfl, HW6.out⟩
  case round =>
    obtain ⟨k, hk, rfl, hw⟩ := hrel
    have HW := Lib.hid hw
    clear hw HW6
    rcases Nat.lt_or_ge k L.length with hlt | hge
    · obtain ⟨e, hs⟩ : ∃ e, L[k]? = some e := ⟨_, List.getElem?_eq_getElem hlt⟩
      obtain ⟨g, off, vd, rfl, hrg0, hrd0⟩ := H.out.at hs
      have hrg := range_mods hrg0 HW.out.1 (by simp)
      have hrd := hrd0.mods HW.out.1 (by simp)
      obtain ⟨vA, vc, rfl, -⟩ := id hrd
      have RDW := fun {w' : World} (hw : Mods [] w w') => hrd0.mods hw (by simp)
      clear hrg0 hrd0
      have HRG := Lib.hid hrg
      have HRD := Lib.hid hrd
      have hsm := HZ.out e (List.mem_of_getElem? hs)
      clear hrg hrd
      rw [List.length_map] at *
      simp only [entC] at HRG
      have HX := Lib.hid (heap_alloc_new wr (.cells #[.string e.path, .int .u32 (e.mode : Int), .int .u32 (e.mtime : Int), .string e.gid, .slice vA e.data.length vc] 47))
      have hM2 := (Mods.refl [] wr).alloc (.cells #[.string e.path, .int .u32 (e.mode : Int), .int .u32 (e.mtime : Int), .string e.gid, .slice vA e.data.length vc] 47)
      have HW2 := Lib.hid (HW.out.box #[.string e.path, .int .u32 (e.mode : Int), .int .u32 (e.mtime : Int), .string e.gid, .slice vA e.data.length vc] 47)
      have HSN : Hid ((baseD L.length).entries (L.take (k + 1)) = ((baseD L.length).entries (L.take k)).entry e) := Lib.hid (by rw [List.take_add_one, hs]; exact WSt.entries_snoc _ _ _)
      clear hM2
      go_wp2_with (first | (refine wpList_load_mid rfl 47 _ rfl g (off + k * 5) rfl [.string e.path, .int .u32 (e.mode : Int), .int .u32 (e.mtime : Int), .string e.gid, .slice vA e.data.length vc] _ HRG.out Tryz.underlying47 rfl info38t ?_))
      generalize wr.alloc (.cells #[.string e.path, .int .u32 (e.mode : Int), .int .u32 (e.mtime : Int), .string e.gid, .slice vA e.data.length vc] 47) = w2' at *
      generalize wr.heap.size = bx at *
      generalize (baseD L.length).entries (L.take k) = S at *
      have hpm : e.path.size ≤ maxLen := by have := hsm.path; unfold maxLen; omega
      have hgm : e.gid.size ≤ maxLen := by have := hsm.gid; unfold maxLen; omega
      have hmo := hsm.mode
      have hmt := hsm.mtime
      have hda := hsm.data
      have HRW := Lib.hid (fun w' (hw : Mods [] w w') => (show Rd w' (.slice vA e.data.length vc) (e.data.map byteV) from RDW hw))
      have hcd : (e.data.length : Int) % 4294967296 = (e.data.length : Int) := by omega
      clear HRD HX hs
      refine (HW2.out.text e.path hpm (hT.mods HW2.out.1)).mono ?_
      rintro x q1 ⟨rfl, hw⟩
      have HV1 := Lib.hid hw
      obtain ⟨c0, c1, c2, c3, c4⟩ := hw.cell
      clear hw HW2
      go_wp2_with fail
      refine (HV1.out.u32 e.mode hmo).mono ?_
      rintro x q2 ⟨rfl, hw⟩
      have HV2 := Lib.hid hw
      obtain ⟨c0, c1, c2, c3, c4⟩ := hw.cell
      clear hw HV1
      go_wp2_with fail
      refine (HV2.out.u32 e.mtime hmt).mono ?_
      rintro x q3 ⟨rfl, hw⟩
      have HV3 := Lib.hid hw
      obtain ⟨c0, c1, c2, c3, c4⟩ := hw.cell
      clear hw HV2
      go_wp2_with fail
      refine (HV3.out.text e.gid hgm (hT.mods HV3.out.1)).mono ?_
      rintro x q4 ⟨rfl, hw⟩
      have HV4 := Lib.hid hw
      obtain ⟨c0, c1, c2, c3, c4⟩ := hw.cell
      clear hw HV3
      go_wp2_with fail
      refine (HV4.out.u32 e.data.length (by omega)).mono ?_
      rintro x q5 ⟨rfl, hw⟩
      have HV5 := Lib.hid hw
      obtain ⟨c0, c1, c2, c3, c4⟩ := hw.cell
      clear hw HV4
      go_wp2_with fail
      refine (HV5.out.raw e.data (HRW.out _ HV5.out.1)).mono ?_
      rintro x q6 ⟨rfl, hw⟩
      have HV6 := Lib.hid hw
      obtain ⟨c0, c1, c2, c3, c4⟩ := hw.cell
      clear hw HV5
      go_wp2_with fail
      exact ⟨⟨k + 1, by omega, rfl, by rw [HSN.out]; exact HV6.out.toW⟩, by simp only [intOf]; omega⟩
    · obtain rfl : k = L.length := by omega
      rw [List.take_length] at HW
      go_wp2_with fail
      have HDN := Lib.hid (show Calls Tryz.prog 28 #[.pointer (some ⟨a, 0, none⟩)] wr fun e w' => ∃ v, e = .returned (.tuple #[v, .int .i64 ((wroteD L).done.2 : Int)]) ∧ w'.ownsRow wr.heap.size 5 1 v (wroteD L).done.1.length ((wroteD L).done.1.map byteV) ∧ Mods [] wr w' by
        obtain ⟨h0', vb, vo, h1', h2'⟩ := HW.out
        exact done_any h1')
      by_cases hf : 16777216 < 11 + sizeL L
      · have herr := wroteD_full L hf
        rw [done_err herr] at HDN
        have HE : Hid (encP L = ([], 11)) := Lib.hid (by rw [HQ.out, if_neg (by simp [h0, hall]), if_neg (by simp [hord]), if_pos (by omega)])
        generalize (wroteD L).err = er at *
        refine HDN.out.mono ?_
        rintro x w7 ⟨v, rfl, ho, hm⟩
        obtain ⟨A9, c9, rfl⟩ := own_ctor ho
        have HM7 := Lib.hid (HW.out.1.trans hm (by simp))
        have hne2 : (((er : Int) != 0) = true) := bne_iff_ne.2 (by omega)
        clear ho hm HDN HQ HW
        go_wp2_with fail
        go_ret2
        rw [HE.out]
        exact ⟨_, rfl, World.ownsRow_nil _ _ _ _, HM7.out⟩
      · have hfine : ∀ e ∈ L, e.Fine := fun e he => may_fine (HZ.out e he).toFits (List.all_eq_true.1 hall e he)
        have hwd := wroteD_fits L hfine (by omega)
        rw [hwd, done_of rfl rfl] at HDN
        have HW7 : Hid (OwnW 88 w wr a ⟨16777216, bodyD L, [], 0⟩) := Lib.hid (by rw [← hwd]; exact HW.out)
        have HBL := Lib.hid (bodyD_length L)
        have HFU : Hid (fullD L = bodyD L ++ le (sumD (bodyD L)) 8) := Lib.hid rfl
        have hsl := sumD_lt (bodyD L)
        clear HW
        refine HDN.out.mono ?_
        rintro x w7 ⟨v, rfl, ho, hm⟩
        have hcv2 := conv_rd (Rd.of_own ho)
        have hss := sum_any (mkB (bodyD L)) w7 (by have := HBL.out; simp only [mkB, ByteArray.size, List.size_toArray]; omega)
        rw [data_mkB] at hss
        obtain ⟨A9, c9, rfl⟩ := own_ctor ho
        have HSS := Lib.hid hss
        have HW8 := Lib.hid (HW7.out.still hm)
        have HUS := Lib.hid (HW8.out.u64 (sumD (bodyD L)) hsl)
        rw [show (⟨(bodyD L).toArray⟩ : ByteArray) = mkB (bodyD L) from rfl] at hcv2
        generalize sumD (bodyD L) = sm at *
        clear ho hm HDN hss HW7
        go_wp2_with fail
        refine HSS.out.mono ?_
        rintro x w8 ⟨rfl, rfl⟩
        go_wp2_with fail
        refine HUS.out.mono ?_
        rintro x w9 ⟨rfl, hw⟩
        have HDN := Lib.hid (show Calls Tryz.prog 28 #[.pointer (some ⟨a, 0, none⟩)] w9 fun e w' => ∃ v, e = .returned (.tuple #[v, .int .i64 ((((⟨16777216, bodyD L, [], 0⟩ : WSt).put (le sm 8)).done).2 : Int)]) ∧ w'.ownsRow w9.heap.size 5 1 v (((⟨16777216, bodyD L, [], 0⟩ : WSt).put (le sm 8)).done).1.length ((((⟨16777216, bodyD L, [], 0⟩ : WSt).put (le sm 8)).done).1.map byteV) ∧ Mods [] w9 w' by
          obtain ⟨h0', vb, vo, h1', h2'⟩ := hw
          exact done_any h1')
        have HM9 := Lib.hid hw.1
        clear hw HW8 HUS hcv2
        by_cases hf2 : 16777216 < 19 + sizeL L
        · rw [WSt.put_full _ rfl (by have := HBL.out; simp only [le_length]; omega), done_err (by simp)] at HDN
          have HE : Hid (encP L = ([], 11)) := Lib.hid (by rw [HQ.out, if_neg (by simp [h0, hall]), if_neg (by simp [hord]), if_pos (by omega)])
          go_wp2_with fail
          refine HDN.out.mono ?_
          rintro x w10 ⟨v, rfl, ho, hm⟩
          obtain ⟨A10, c10, rfl⟩ := own_ctor ho
          have HM10 := Lib.hid (HM9.out.trans hm (by simp))
          clear ho hm HDN
          go_wp2_with fail
          go_ret2
          rw [HE.out]
          exact ⟨_, rfl, World.ownsRow_nil _ _ _ _, HM10.out⟩
        · rw [WSt.put_fits _ rfl (by have := HBL.out; simp only [le_length]; omega), done_of rfl rfl] at HDN
          have HE : Hid (encP L = (fullD L, 0)) := Lib.hid (by rw [HQ.out, if_neg (by simp [h0, hall]), if_neg (by simp [hord]), if_neg (by omega)])
          simp only at HDN
          rw [← HFU.out] at HDN
          go_wp2_with fail
          refine HDN.out.mono ?_
          rintro x w10 ⟨v, rfl, ho, hm⟩
          obtain ⟨A10, c10, rfl⟩ := own_ctor ho
          have HM10 := Lib.hid (HM9.out.trans hm (by simp))
          have HO10 := Lib.hid (ownsRow_base ho HM9.out.size)
          clear ho hm HDN
          go_wp2_with fail
          go_ret2
          rw [HE.out]
          exact ⟨_, rfl, HO10.out, HM10.out⟩
end Go.Proofs.YtmcekhgmmocajaaGreatDoor
