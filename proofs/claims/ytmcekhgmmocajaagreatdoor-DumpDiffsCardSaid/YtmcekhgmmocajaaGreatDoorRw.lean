/- Raw, of a writer and of a reader. -/
import Derived.Test.YtmcekhgmmocajaaGreatDoorKn
namespace Go.Proofs.YtmcekhgmmocajaaGreatDoor
open Go.RowKit Me

/-- The bytes have been put behind, out of a world that may be another one. -/
theorem app_post {a : Nat} {S : WSt} {vb vo v' : Value} {w W w1 : World} {m : Nat} {bs : List UInt8} {news : List Value} {F : List Nat} (h : IsW 88 W a S vb vo) (hm : Mods F w W) (hF : ∀ k ∈ F, k ∈ foot a vb vo) (hg : W.grownBy w1 vb.ownBlock)
    (hown : w1.ownsRow 0 5 1 v' (S.bytes.length + m) (S.bytes.map byteV ++ news)) (hat : v'.ownBlock = vb.ownBlock ∨ v'.ownBlock = some W.heap.size) (hn : news = bs.map byteV) (hf : S.bytes.length + bs.length ≤ S.limit) :
    WPost 88 w a vb vo (S.add bs) (w1.setCell ⟨a, 1, none⟩ v') := by
  have h3 := h.app (by decide) hg hown hat hn hf
  refine WPost.of_b h3.1 ((hm.mono (fun k hk => Or.inl (hF k hk))).trans h3.2 (fun b hb => Or.inl hb)) ?_
  rcases hat with e | e
  · exact Or.inl e
  · exact Or.inr ⟨_, e, hm.size⟩

set_option maxRecDepth 100000 in
set_option maxHeartbeats 400000 in
theorem raw_fits {a : Nat} {S : WSt} {vb vo vx : Value} {w : World} (h : IsW 88 w a S vb vo) (bs : List UInt8) (hx : Rd w vx (bs.map byteV)) (he : S.err = 0) (hf : S.bytes.length + bs.length ≤ S.limit) :
    Calls Tryz.prog 25 #[.pointer (some ⟨a, 0, none⟩), vx] w fun e w' => e = .returned (.tuple #[]) ∧ WPost 88 w a vb vo (S.add bs) w' := by
  have hl1 := h.wf.limit
  have hsz : S.bytes.length + bs.length ≤ 100000000 := by omega
  obtain ⟨A, c, hxe⟩ := hx.slice
  obtain rfl := hxe
  have H := Lib.hid h
  have HX := Lib.hid hx
  have HE := Lib.hid he
  have HF := Lib.hid hf
  rw [List.length_map]
  clear h he hf hx hl1
  go_enter Tryz.func25, Tryz.ntmps25
  go_wp2_with fail
  refine (room_fits H.out bs.length (by omega) (by omega) HE.out (by have := HF.out; omega)).mono ?_; rintro e w1 ⟨rfl, k, rfl⟩
  obtain ⟨c0, c1, c2, c3, f1, f2, f3⟩ := cell4 (H.out.drewN k).cells
  obtain ⟨i0, hi, hz0, hz1, hz2⟩ := info_parts info5
  clear c0 c2 c3 f2 f3
  go_wp2_with (at_builtin; go_must (refine wpList_app _ rfl _ _ 22 22 rfl 0 5 i0 (.int .u8 0) 1 1 Tryz.underlying22 hi hz0 hz1 hz2 rfl _ _ _ rfl (H.out.drewN k).b _ bs.length (bs.map byteV) rfl ?c1 ?c2 ?c3 ?c4 ?_))
  case c1 =>
    have := (HX.out.mods ((Mods.refl [] _).drewN k) (by simp)).src Tryz.underlying22 (bytes_one bs)
    rwa [List.length_map] at this
  case c2 => unfold maxLen; omega
  case c3 => omega
  case c4 => exact Nat.zero_le _
  intro v' w1 hown hgrow hat2
  have d1 : w1.cell? ⟨a, 1, none⟩ = some vb ∧ w1.frozen? ⟨a, 1, none⟩ = false := by
    have hr := wrow (H.out.drewN k) (by decide)
    have ha : w1.heap[a]? = _ := (hgrow.block a (Array.getElem?_eq_some_iff.1 (H.out.drewN k).cells).1 (fun e => hr.1 e.symm)).trans (H.out.drewN k).cells
    obtain ⟨_, d1, _, _, g1, _⟩ := cell4 ha
    exact ⟨d1, g1⟩
  obtain ⟨d1, g1⟩ := d1
  obtain ⟨A', c', rfl⟩ := own_ctor hown
  have HR := Lib.hid (app_post (H.out.drewN k) ((Mods.refl [] w).drewN k) (by simp) hgrow hown hat2 rfl HF.out)
  clear hown hgrow hat2 c1 f1
  go_wp2_with fail
  go_end0
  exact ⟨rfl, HR.out⟩
set_option maxHeartbeats 400000 in
theorem raw_any {a : Nat} {S : WSt} {vb vo vx : Value} {w : World} (h : IsW 88 w a S vb vo) (bs : List UInt8) (hx : Rd w vx (bs.map byteV)) :
    Calls Tryz.prog 25 #[.pointer (some ⟨a, 0, none⟩), vx] w fun e w' => e = .returned (.tuple #[]) ∧ WPost 88 w a vb vo (S.put bs) w' := by
  by_cases he : S.err = 0
  · by_cases hf : S.limit < S.bytes.length + bs.length
    · rw [WSt.put_full _ he hf]
      have hbm : bs.length ≤ maxLen := by obtain ⟨A, c, _, h1, h2, _⟩ := hx; rw [List.length_map] at h1; omega
      unfold maxLen at hbm
      obtain ⟨A, c, hxe⟩ := hx.slice
      obtain rfl := hxe
      have H := Lib.hid h
      have HE := Lib.hid he
      have HF := Lib.hid hf
      rw [List.length_map]
      clear h he hf hx
      go_enter Tryz.func25, Tryz.ntmps25
      go_wp2_with fail
      refine (room_full H.out (by decide) bs.length (by omega) (by omega) HE.out (by have := HF.out; omega)).mono ?_; rintro e w1 ⟨rfl, hw, hm⟩
      have HW := Lib.hid hw
      have HM := Lib.hid hm
      clear hw hm
      go_wp2_with fail
      go_end0
      exact ⟨rfl, WPost.same HW.out HM.out (by simp [foot])⟩
    · rw [WSt.put_fits _ he hf]
      exact raw_fits h bs hx he (by omega)
  · rw [WSt.put_err _ he]
    obtain ⟨A, c, hxe⟩ := hx.slice
    obtain rfl := hxe
    have H := Lib.hid h
    have HE := Lib.hid he
    clear h he hx
    go_enter Tryz.func25, Tryz.ntmps25
    go_wp2_with fail
    refine (room_err H.out _ HE.out).mono ?_; rintro e w1 ⟨rfl, rfl⟩
    go_wp2_with fail
    go_end0
    exact ⟨rfl, WPost.same H.out (Mods.refl [] _) (by simp)⟩

/-- What raw gives back. -/
def RawPost (w : World) (a : Nat) (vb : Value) (r : List UInt8 × RSt) (e : Ending) (w' : World) : Prop :=
  ∃ v, e = .returned v ∧ w'.ownsRow w.heap.size 5 1 v r.1.length (r.1.map byteV) ∧ RPost 128 w a vb r.2 w'

set_option maxRecDepth 100000 in
set_option maxHeartbeats 1000000 in
theorem rraw_fits {a g off c : Nat} {S : RSt} {w : World} (h : IsR 128 w a S (.slice (some ⟨g, off, none⟩) S.bytes.length c)) (n : Nat) (he : S.err = 0) (hf : n ≤ S.rest.length) :
    Calls Tryz.prog 57 #[.pointer (some ⟨a, 0, none⟩), .int .i64 (n : Int)] w (RawPost w a (.slice (some ⟨g, off, none⟩) S.bytes.length c) (S.rest.take n, { S with place := S.place + n })) := by
  have hsz := h.wf.size
  have hpl := h.wf.place
  have hfit : S.place + n ≤ S.bytes.length := by simp [RSt.rest] at hf; omega
  have hln : (S.rest.take n).length = n := by simp; omega
  have hpt : ((S.bytes.map byteV).drop S.place).take n = (S.rest.take n).map byteV := by rw [RSt.rest, List.map_take, List.map_drop]
  have hrp := rd_part h.b (by simp) hfit
  rw [hpt] at hrp
  have HRP := Lib.hid hrp
  have hc : S.bytes.length ≤ c := by
    obtain ⟨A, c', e, h1, h2⟩ := rd_slice h.b
    cases e
    exact h1
  have hab : w.heap.size > a := by have := h.cells; exact (Array.getElem?_eq_some_iff.1 this).1
  have H := Lib.hid h
  have HE := Lib.hid he
  have HF := Lib.hid hf
  have HL := Lib.hid hln
  obtain ⟨c0, c1, c2, c3, c4, f1, f3, f4⟩ := cell5 h.cells
  clear h he hf hrp hpt hln
  have s1 : IntKind.i64.wrap ((S.place : Int) + (n : Int)) = (S.place : Int) + (n : Int) := IntWalk.i64_in _ (by omega)
  have s4 : ((S.place : Int) + (n : Int)).toNat = S.place + n := by omega
  have s6 : (S.place : Int) ≤ (S.place : Int) + (n : Int) := by omega
  have s7 : (S.place : Int) + (n : Int) ≤ (c : Int) := by omega
  have s8 : (0 : Int) ≤ (S.place : Int) + (n : Int) := by omega
  have s9 : S.place + n - S.place = n := by omega
  obtain ⟨i0, hi, hz0, hz1, hz2⟩ := info_parts info5
  go_enter Tryz.func57, Tryz.ntmps57
  go_wp2_with fail
  refine (has_fits H.out (n : Int) (by omega) (by omega) HE.out (by have := HF.out; omega)).mono ?_; rintro e w1 ⟨rfl, k, hk⟩
  have d0 : w1.cell? ⟨a, 0, none⟩ = some (.slice (some ⟨g, off, none⟩) S.bytes.length c) := by rw [← hk]; exact c0
  have d1 : w1.cell? ⟨a, 1, none⟩ = some (.int .i64 (S.place : Int)) := by rw [← hk]; exact c1
  have hm : Mods [] w w1.drew := by rw [← hk]; exact ((Mods.refl _ _).drewN k).drew
  have HM := Lib.hid hm
  clear hk hm
  go_wp2_with fail
  go_still_tail 15, (by kernel_rfl)
  change wpList _ _ _ _ _ w1.drew
  generalize w1.drew = w2 at *
  generalize hz : (Value.slice (if c = S.place then some ⟨g, off, none⟩ else some ⟨g, off + S.place, none⟩) n (c - S.place)) = zz at *
  have HZ := Lib.hid hz
  clear hz
  go_wp2_with (at_builtin; go_must (refine wpList_app _ rfl _ _ 22 22 rfl w.heap.size 5 i0 (.int .u8 0) 1 1 Tryz.underlying22 hi hz0 hz1 hz2 rfl (.slice none 0 0) 0 [] rfl (World.ownsRow_nil _ _ _ _) _ n ((S.rest.take n).map byteV) rfl ?c1 ?c2 ?c3 ?c4 ?_))
  case c1 =>
    have h := (HRP.out.mods HM.out (by simp)).src Tryz.underlying22 (bytes_one _)
    rw [List.length_map, HL.out] at h
    exact h
  case c2 => unfold maxLen; omega
  case c3 => omega
  case c4 => exact HM.out.size
  intro v' w3 hown hgrow hat2
  have HM2 := Lib.hid (HM.out.grown hgrow (by simp [Value.ownBlock]))
  have HI := Lib.hid (H.out.still HM2.out)
  obtain ⟨-, d1', -, -, -, g1, -, -⟩ := cell5 HI.out.cells
  have HO := Lib.hid hown
  clear hown hgrow hat2
  go_wp2_with fail
  go_ret
  refine ⟨v', rfl, ?_, HI.out.goto n hfit rfl, (mods_up HM2.out).setCell (p := ⟨a, 1, none⟩) (Or.inl (by simp)) _⟩
  have hS := ownsRow_mods (F := [a]) HO.out ((Mods.refl _ _).setCell (p := ⟨a, 1, none⟩) (Or.inl (by simp)) (.int .i64 ((S.place : Int) + (n : Int)))) (by
    intro b hb hm
    simp at hm
    subst hm
    have := (HO.out.lt b hb).1
    omega)
  rw [HL.out]
  simpa using hS
set_option maxRecDepth 100000 in
set_option maxHeartbeats 1000000 in
theorem rraw_nil {a : Nat} {S : RSt} {w : World} (h : IsR 128 w a S (.slice none 0 0)) (he : S.err = 0) (hp : S.place = 0) (hb : S.bytes = []) :
    Calls Tryz.prog 57 #[.pointer (some ⟨a, 0, none⟩), .int .i64 0] w (RawPost w a (.slice none 0 0) ([], S)) := by
  have H := Lib.hid h
  have HE := Lib.hid he
  have HPL := Lib.hid hp
  have hab : w.heap.size > a := by have := h.cells; exact (Array.getElem?_eq_some_iff.1 this).1
  have HP := Lib.hid (show S.place + 0 ≤ S.bytes.length by omega)
  have HR : S.rest = [] := by simp [RSt.rest, hb]
  have hf : (0 : Int) ≤ (S.rest.length : Int) := by rw [HR]; simp
  obtain ⟨c0, c1, c2, c3, c4, f1, f3, f4⟩ := cell5 h.cells
  rw [hp] at c1
  have s0 : IntKind.i64.wrap 0 = 0 := by decide
  clear h he hp hb HR
  obtain ⟨i0, hi, hz0, hz1, hz2⟩ := info_parts info5
  go_enter Tryz.func57, Tryz.ntmps57
  go_wp2_with fail
  refine (has_fits H.out 0 (by omega) (by omega) HE.out hf).mono ?_; rintro e w1 ⟨rfl, k, hk⟩
  have d0 : w1.cell? ⟨a, 0, none⟩ = some (.slice none 0 0) := by rw [← hk]; exact c0
  have d1 : w1.cell? ⟨a, 1, none⟩ = some (.int .i64 0) := by rw [← hk]; exact c1
  have hm : Mods [] w w1.drew := by rw [← hk]; exact ((Mods.refl _ _).drewN k).drew
  have HM := Lib.hid hm
  clear hk hm
  go_wp2_with fail
  go_still_tail 15, (by kernel_rfl)
  change wpList _ _ _ _ _ w1.drew
  generalize w1.drew = w2 at *
  go_wp2_with (at_builtin; go_must (refine wpList_app _ rfl _ _ 22 22 rfl w.heap.size 5 i0 (.int .u8 0) 1 1 Tryz.underlying22 hi hz0 hz1 hz2 rfl (.slice none 0 0) 0 [] rfl (World.ownsRow_nil _ _ _ _) _ 0 [] rfl ?c1 ?c2 ?c3 ?c4 ?_))
  case c1 => exact Src.ofNil _ Tryz.underlying22 _
  case c2 => unfold maxLen; omega
  case c3 => omega
  case c4 => exact HM.out.size
  intro v' w3 hown hgrow hat2
  have HM2 := Lib.hid (HM.out.grown hgrow (by simp [Value.ownBlock]))
  have HI := Lib.hid (H.out.still HM2.out)
  obtain ⟨-, -, -, -, -, g1, -, -⟩ := cell5 HI.out.cells
  have d1' : w3.cell? ⟨a, 1, none⟩ = some (.int .i64 0) := by
    have := (cell5 HI.out.cells).2.1
    rw [this, HPL.out]
    rfl
  have HO := Lib.hid hown
  clear hown hgrow hat2
  go_wp2_with fail
  go_ret
  refine ⟨v', rfl, ?_, HI.out.goto 0 HP.out (by rw [HPL.out]; rfl), (mods_up HM2.out).setCell (p := ⟨a, 1, none⟩) (Or.inl (by simp)) _⟩
  have hS := ownsRow_mods (F := [a]) HO.out ((Mods.refl _ _).setCell (p := ⟨a, 1, none⟩) (Or.inl (by simp)) (.int .i64 0)) (by
    intro b hb hm
    simp at hm
    subst hm
    have := (HO.out.lt b hb).1
    omega)
  simpa using hS
theorem rraw_any {a : Nat} {S : RSt} {vb : Value} {w : World} (h : IsR 128 w a S vb) (n : Int) (hn1 : -9223372036854775808 ≤ n) (hn2 : n ≤ 9223372036854775807) :
    Calls Tryz.prog 57 #[.pointer (some ⟨a, 0, none⟩), .int .i64 n] w (RawPost w a vb (S.raw n)) := by
  unfold RSt.raw
  have hpl := h.wf.place
  by_cases hn : n < 0
  · have hw : (if S.err ≠ 0 then (([] : List UInt8), S) else if n < 0 then ([], S.wrong 1 0) else if (S.rest.length : Int) < n then ([], S.wrong 10 0) else (S.rest.take n.toNat, { S with place := S.place + n.toNat })) = ([], S.wrong 1 0) := by
      by_cases he : S.err ≠ 0
      · rw [if_pos he]; unfold RSt.wrong; rw [if_neg (by simp [he])]
      · rw [if_neg he, if_pos hn]
    rw [hw]
    have H := Lib.hid (wrong_any h 1 0 (by omega) (by omega) (by omega))
    clear h hw
    go_enter Tryz.func57, Tryz.ntmps57
    go_wp2_with fail
    refine H.out.mono ?_; rintro e w1 ⟨rfl, hr⟩
    have HR := Lib.hid hr
    clear hr
    go_wp2_with fail
    go_ret
    exact ⟨_, rfl, World.ownsRow_nil _ _ _ _, HR.out⟩
  · by_cases he : S.err ≠ 0
    · rw [if_pos he]
      have H := Lib.hid (has_err h n (by omega) (by omega) he)
      have HI := Lib.hid h
      clear h he
      go_enter Tryz.func57, Tryz.ntmps57
      go_wp2_with fail
      refine H.out.mono ?_; rintro e w1 ⟨rfl, rfl⟩
      go_wp2_with fail
      go_ret
      exact ⟨_, rfl, World.ownsRow_nil _ _ _ _, RPost.self HI.out⟩
    · rw [if_neg he, if_neg hn]
      by_cases hf : (S.rest.length : Int) < n
      · rw [if_pos hf]
        have H := Lib.hid (has_short h n (by omega) (by omega) (by simpa using he) hf)
        clear h he hf
        go_enter Tryz.func57, Tryz.ntmps57
        go_wp2_with fail
        refine H.out.mono ?_; rintro e w1 ⟨rfl, hr⟩
        have HR := Lib.hid hr
        clear hr
        go_wp2_with fail
        go_ret
        exact ⟨_, rfl, World.ownsRow_nil _ _ _ _, HR.out⟩
      · rw [if_neg hf]
        obtain ⟨A, c, hvb, h1, h2⟩ := rd_slice h.b
        have hz : n = (n.toNat : Int) := by omega
        have he' : S.err = 0 := by simpa using he
        rcases h.pl with rfl | ⟨g, off, m, c', rfl⟩
        · injection hvb with _ e2 _
          have hb : S.bytes = [] := List.eq_nil_of_length_eq_zero e2.symm
          have hp : S.place = 0 := by rw [hb] at hpl; simpa using hpl
          have hr : S.rest = [] := by simp [RSt.rest, hb]
          have h0 : n = 0 := by rw [hr] at hf; simp at hf; omega
          have := rraw_nil h he' hp hb
          rw [h0, hr]
          exact this
        · injection hvb with e1 e2 e3
          subst e2
          have := rraw_fits h n.toNat he' (by omega)
          rw [← hz] at this
          exact this
end Go.Proofs.YtmcekhgmmocajaaGreatDoor
