/- The walks of the writer's methods: each is the plain writer's. -/
import Derived.Test.YtedddekkbgaolaaDoorPut
namespace Go.Proofs.YtedddekkbgaolaaDoor
open Go.RowKit Me

theorem wrap_u64 (n : Nat) (h : n < 4294967296) : IntKind.u64.wrap (n : Int) = (n : Int) := by
  rw [IntKind.wrap_u64]
  omega

/-- A slice that reads as these cells, whoever owns it. -/
def Rd (w : World) (v : Value) (xs : List Value) : Prop :=
  ∃ A c, v = .slice A xs.length c ∧ xs.length ≤ c ∧ c ≤ maxLen ∧ ∀ j u, xs[j]? = some u → ∃ g off, A = some ⟨g, off, none⟩ ∧ w.cell? ⟨g, off + j, none⟩ = some u
theorem Rd.mods {w w' : World} {v : Value} {xs : List Value} {F : List Nat} (h : Rd w v xs) (hm : Mods F w w') (hn : ∀ k, v.ownBlock = some k → k ∉ F) : Rd w' v xs := by
  obtain ⟨A, c, rfl, h1, h2, h3⟩ := h
  refine ⟨A, c, rfl, h1, h2, fun j u hu => ?_⟩
  obtain ⟨g, off, rfl, hc⟩ := h3 j u hu
  refine ⟨g, off, rfl, ?_⟩
  have hb := World.block_lt_of_cell? w _ hc
  rw [hm.cell hb (hn _ rfl)]
  exact hc
theorem Rd.of_own {w : World} {base : Nat} {e : TypeId} {v : Value} {n : Nat} {xs : List Value} (h : w.ownsRow base e 1 v n xs) : Rd w v xs := by
  have hl := h.1
  rcases ownsRow_form h with ⟨rfl, rfl, rfl⟩ | ⟨g, cap, rfl, h1, h2, _⟩
  · exact ⟨none, 0, rfl, by simp, by unfold maxLen; omega, fun j u hu => by simp at hu⟩
  · obtain rfl : n = xs.length := by omega
    refine ⟨_, _, rfl, h1, h2, fun j u hu => ⟨g, 0, rfl, ?_⟩⟩
    have := h.cells rfl j u hu
    rwa [Addr.add_lit] at this
theorem Rd.src {P : Program} {tx e' : TypeId} (hk : P.underlying tx = some (.slice e')) {w : World} {v : Value} {xs : List Value} (h : Rd w v xs) (h1 : ∀ u ∈ xs, u.oneCell' = true) : Src P 1 tx v xs.length xs w := by
  obtain ⟨A, c, rfl, _, _, h3⟩ := h
  cases xs with
  | nil =>
    cases A with
    | none => exact Src.ofNil _ hk _
    | some ad => exact Src.ofSlice _ hk _ _ _ _ (by simp) (fun j u hu => by simp at hu) h1
  | cons x xs =>
    obtain ⟨g, off, rfl, _⟩ := h3 0 x rfl
    refine Src.ofSlice _ hk _ _ _ _ (by omega) (fun j u hu => ?_) h1
    obtain ⟨_, _, e, hc⟩ := h3 j u hu
    cases e
    rwa [Addr.add_lit]
theorem Rd.slice {w : World} {v : Value} {xs : List Value} (h : Rd w v xs) : ∃ A c, v = .slice A xs.length c := by
  obtain ⟨A, c, h, _⟩ := h
  exact ⟨A, c, h⟩

theorem u8_any {a : Nat} {S : WSt} {vb vo : Value} {w : World} (h : IsW 122 w a S vb vo) (n : Nat) (hn : n < 4294967296) :
    Calls Tryd.prog 71 #[.pointer (some ⟨a, 0, none⟩), .int .u8 n] w fun e w' => e = .returned (.tuple #[]) ∧ WPost 122 w a vb vo (S.put (le n 1)) w' := by
  have H := Lib.hid (put8_any h n (wrap_u64 n hn))
  clear h
  go_enter Tryd.func71, Tryd.ntmps71
  go_wp2_with fail
  refine H.out.mono ?_; rintro e w1 ⟨rfl, hw⟩
  have HW := Lib.hid hw
  clear hw
  go_wp2_with fail
  go_end0
  exact ⟨rfl, HW.out⟩
theorem u16_any {a : Nat} {S : WSt} {vb vo : Value} {w : World} (h : IsW 122 w a S vb vo) (n : Nat) (hn : n < 4294967296) :
    Calls Tryd.prog 70 #[.pointer (some ⟨a, 0, none⟩), .int .u16 n] w fun e w' => e = .returned (.tuple #[]) ∧ WPost 122 w a vb vo (S.put (le n 2)) w' := by
  have H := Lib.hid (put16_any h n (wrap_u64 n hn))
  clear h
  go_enter Tryd.func70, Tryd.ntmps70
  go_wp2_with fail
  refine H.out.mono ?_; rintro e w1 ⟨rfl, hw⟩
  have HW := Lib.hid hw
  clear hw
  go_wp2_with fail
  go_end0
  exact ⟨rfl, HW.out⟩
theorem u32_any {a : Nat} {S : WSt} {vb vo : Value} {w : World} (h : IsW 122 w a S vb vo) (n : Nat) (hn : n < 4294967296) :
    Calls Tryd.prog 99 #[.pointer (some ⟨a, 0, none⟩), .int .u32 n] w fun e w' => e = .returned (.tuple #[]) ∧ WPost 122 w a vb vo (S.put (le n 4)) w' := by
  have H := Lib.hid (put32_any h n (wrap_u64 n hn))
  clear h
  go_enter Tryd.func99, Tryd.ntmps99
  go_wp2_with fail
  refine H.out.mono ?_; rintro e w1 ⟨rfl, hw⟩
  have HW := Lib.hid hw
  clear hw
  go_wp2_with fail
  go_end0
  exact ⟨rfl, HW.out⟩
theorem u64_any {a : Nat} {S : WSt} {vb vo : Value} {w : World} (h : IsW 122 w a S vb vo) (n : Nat) (hn : IntKind.u64.wrap (n : Int) = (n : Int)) :
    Calls Tryd.prog 100 #[.pointer (some ⟨a, 0, none⟩), .int .u64 n] w fun e w' => e = .returned (.tuple #[]) ∧ WPost 122 w a vb vo (S.put (le n 8)) w' := by
  have H := Lib.hid (put64_any h n hn)
  clear h hn
  go_enter Tryd.func100, Tryd.ntmps100
  go_wp2_with fail
  refine H.out.mono ?_; rintro e w1 ⟨rfl, hw⟩
  have HW := Lib.hid hw
  clear hw
  go_wp2_with fail
  go_end0
  exact ⟨rfl, HW.out⟩

/-- Len. -/
theorem len_any {a : Nat} {S : WSt} {vb vo : Value} {w : World} (h : IsW 122 w a S vb vo) :
    Calls Tryd.prog 28 #[.pointer (some ⟨a, 0, none⟩)] w fun e w' => e = .returned (.int .i64 (S.bytes.length : Int)) ∧ w = w' := by
  obtain ⟨c0, c1, c2, c3, f1, f2, f3⟩ := cell4 h.cells
  obtain ⟨A, c, rfl, hlc, hcm⟩ := ownsRow_slice h.b
  clear h c0 c2 c3 f1 f2 f3
  go_enter Tryd.func28, Tryd.ntmps28
  go_wp2_with fail
  go_ret
  exact ⟨rfl, rfl⟩

/-- The bytes have been put behind, out of a world that may be another one. -/
theorem app_post {a : Nat} {S : WSt} {vb vo v' : Value} {w W w1 : World} {m : Nat} {bs : List UInt8} {news : List Value} {F : List Nat} (h : IsW 122 W a S vb vo) (hm : Mods F w W) (hF : ∀ k ∈ F, k ∈ foot a vb vo) (hg : W.grownBy w1 vb.ownBlock)
    (hown : w1.ownsRow 0 5 1 v' (S.bytes.length + m) (S.bytes.map byteV ++ news)) (hat : v'.ownBlock = vb.ownBlock ∨ v'.ownBlock = some W.heap.size) (hn : news = bs.map byteV) (hf : S.bytes.length + bs.length ≤ S.limit) :
    WPost 122 w a vb vo (S.add bs) (w1.setCell ⟨a, 1, none⟩ v') := by
  have h3 := h.app (by decide) hg hown hat hn hf
  refine WPost.of_b h3.1 ((hm.mono (fun k hk => Or.inl (hF k hk))).trans h3.2 (fun b hb => Or.inl hb)) ?_
  rcases hat with e | e
  · exact Or.inl e
  · exact Or.inr ⟨_, e, hm.size⟩

set_option maxRecDepth 100000 in
set_option maxHeartbeats 400000 in
theorem raw_fits {a : Nat} {S : WSt} {vb vo vx : Value} {w : World} (h : IsW 122 w a S vb vo) (bs : List UInt8) (hx : Rd w vx (bs.map byteV)) (he : S.err = 0) (hf : S.bytes.length + bs.length ≤ S.limit) :
    Calls Tryd.prog 47 #[.pointer (some ⟨a, 0, none⟩), vx] w fun e w' => e = .returned (.tuple #[]) ∧ WPost 122 w a vb vo (S.add bs) w' := by
  have hl1 := h.wf.limit
  have hsz : S.bytes.length + bs.length ≤ 100000000 := by omega
  obtain ⟨A, c, hxe⟩ := hx.slice
  obtain rfl := hxe
  have H := Lib.hid h
  have HX := Lib.hid hx
  have HE := Lib.hid he
  have HF := Lib.hid hf
  rw [List.length_map]
  clear h he hf hx hl1
  go_enter Tryd.func47, Tryd.ntmps47
  go_wp2_with fail
  refine (room_fits H.out bs.length (by omega) (by omega) HE.out (by have := HF.out; omega)).mono ?_; rintro e w1 ⟨rfl, k, rfl⟩
  obtain ⟨c0, c1, c2, c3, f1, f2, f3⟩ := cell4 (H.out.drewN k).cells
  obtain ⟨i0, hi, hz0, hz1, hz2⟩ := info_parts info5
  clear c0 c2 c3 f2 f3
  go_wp2_with (at_builtin; go_must (refine wpList_app _ rfl _ _ 43 43 rfl 0 5 i0 (.int .u8 0) 1 1 Tryd.underlying43 hi hz0 hz1 hz2 rfl _ _ _ rfl (H.out.drewN k).b _ bs.length (bs.map byteV) rfl ?c1 ?c2 ?c3 ?c4 ?_))
  case c1 =>
    have := (HX.out.mods ((Mods.refl [] _).drewN k) (by simp)).src Tryd.underlying43 (bytes_one bs)
    rwa [List.length_map] at this
  case c2 => unfold maxLen; omega
  case c3 => omega
  case c4 => exact Nat.zero_le _
  intro v' w1 hown hgrow hat2
  have d1 : w1.cell? ⟨a, 1, none⟩ = some vb ∧ w1.frozen? ⟨a, 1, none⟩ = false := by
    have hr := wrow (H.out.drewN k) (by decide)
    have ha : w1.heap[a]? = _ := (hgrow.block a (Array.getElem?_eq_some_iff.1 (H.out.drewN k).cells).1 (fun e => hr.1 e.symm)).trans (H.out.drewN k).cells
    obtain ⟨_, d1, _, _, g1, _⟩ := cell4 ha
    exact ⟨d1, g1⟩
  obtain ⟨d1, g1⟩ := d1
  obtain ⟨A', c', rfl⟩ := own_ctor hown
  have HR := Lib.hid (app_post (H.out.drewN k) ((Mods.refl [] w).drewN k) (by simp) hgrow hown hat2 rfl HF.out)
  clear hown hgrow hat2 c1 f1
  go_wp2_with fail
  go_end0
  exact ⟨rfl, HR.out⟩
set_option maxHeartbeats 400000 in
theorem raw_any {a : Nat} {S : WSt} {vb vo vx : Value} {w : World} (h : IsW 122 w a S vb vo) (bs : List UInt8) (hx : Rd w vx (bs.map byteV)) :
    Calls Tryd.prog 47 #[.pointer (some ⟨a, 0, none⟩), vx] w fun e w' => e = .returned (.tuple #[]) ∧ WPost 122 w a vb vo (S.put bs) w' := by
  by_cases he : S.err = 0
  · by_cases hf : S.limit < S.bytes.length + bs.length
    · rw [WSt.put_full _ he hf]
      have hbm : bs.length ≤ maxLen := by obtain ⟨A, c, _, h1, h2, _⟩ := hx; rw [List.length_map] at h1; omega
      unfold maxLen at hbm
      obtain ⟨A, c, hxe⟩ := hx.slice
      obtain rfl := hxe
      have H := Lib.hid h
      have HE := Lib.hid he
      have HF := Lib.hid hf
      rw [List.length_map]
      clear h he hf hx
      go_enter Tryd.func47, Tryd.ntmps47
      go_wp2_with fail
      refine (room_full H.out (by decide) bs.length (by omega) (by omega) HE.out (by have := HF.out; omega)).mono ?_; rintro e w1 ⟨rfl, hw, hm⟩
      have HW := Lib.hid hw
      have HM := Lib.hid hm
      clear hw hm
      go_wp2_with fail
      go_end0
      exact ⟨rfl, WPost.same HW.out HM.out (by simp [foot])⟩
    · rw [WSt.put_fits _ he hf]
      exact raw_fits h bs hx he (by omega)
  · rw [WSt.put_err _ he]
    obtain ⟨A, c, hxe⟩ := hx.slice
    obtain rfl := hxe
    have H := Lib.hid h
    have HE := Lib.hid he
    clear h he hx
    go_enter Tryd.func47, Tryd.ntmps47
    go_wp2_with fail
    refine (room_err H.out _ HE.out).mono ?_; rintro e w1 ⟨rfl, rfl⟩
    go_wp2_with fail
    go_end0
    exact ⟨rfl, WPost.same H.out (Mods.refl [] _) (by simp)⟩
end Go.Proofs.YtedddekkbgaolaaDoor
