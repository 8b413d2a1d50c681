/- The walk of same: are two lists of bytes the same? -/
import Derived.Test.YtedddekkbgaolaaDoorRp
namespace Go.Proofs.YtedddekkbgaolaaDoor
open Go.RowKit Me

def RelSame (w : World) (x y : List UInt8) (i : Value) (wr : World) : Prop := ∃ j k : Nat, j ≤ x.length ∧ i = .int .i64 j ∧ x.take j = y.take j ∧ w.drewN k = wr
theorem rd_at {w : World} {A : Option Addr} {n c : Nat} {l : List UInt8} (h : Rd w (.slice A n c) (l.map byteV)) {j : Nat} (hj : j < l.length) : ∃ g off, A = some ⟨g, off, none⟩ ∧ w.cell? ⟨g, off + j, none⟩ = some (.int .u8 (l[j].toNat : Int)) := by
  obtain ⟨A', c', e, h1, h2, h3⟩ := h
  injection e with e0 _ _
  rw [e0]
  exact h3 j (byteV l[j]) (by simp [hj])
theorem u8_ne {x y : UInt8} (h : x ≠ y) : ((x.toNat : Int) != (y.toNat : Int)) = true := by
  rw [bne_iff_ne]
  intro e
  exact h (UInt8.toNat_inj.1 (by omega))
theorem take_same {x y : List UInt8} {j : Nat} (h : x.take j = y.take j) (hx : j < x.length) (hy : j < y.length) (he : x[j] = y[j]) : x.take (j + 1) = y.take (j + 1) := by
  rw [List.take_succ_eq_append_getElem hx, List.take_succ_eq_append_getElem hy, h, he]
theorem drewN_at {w : World} {k : Nat} {p : Addr} {v : Value} (h : w.cell? p = some v) : (w.drewN k).cell? p = some v := h

set_option maxRecDepth 100000 in
set_option maxHeartbeats 400000 in
theorem same_long {w : World} {va vb : Value} (x y : List UInt8) (ha : Rd w va (x.map byteV)) (hb : Rd w vb (y.map byteV)) (hl : x.length = y.length) (hm : x.length ≤ maxLen) :
    Calls Tryd.prog 73 #[va, vb] w fun e w' => e = .returned (.bool (decide (x = y))) ∧ ∃ k, w.drewN k = w' := by
  unfold maxLen at hm
  obtain ⟨A, c, rfl, _, _⟩ := rd_slice ha
  obtain ⟨B, d, rfl, _, _⟩ := rd_slice hb
  have HA := Lib.hid ha
  have HB := Lib.hid hb
  have HL := Lib.hid hl
  clear ha hb
  rw [← hl] at HB ⊢
  clear hl
  go_enter Tryd.func73, Tryd.ntmps73
  go_wp2_with fail
  go_loopw [5] (fun i wr => RelSame w x y i wr) (fun i _ => x.length - (intOf i).toNat)
  case atStart => exact ⟨0, 0, Nat.zero_le _, rfl, rfl, rfl⟩
  case round =>
    obtain ⟨j, k, hj, rfl, ht, rfl⟩ := hrel
    have HT := Lib.hid ht
    clear ht
    rcases Nat.lt_or_ge j x.length with hlt | hge
    · have hlty : j < y.length := by have := HL.out; omega
      obtain ⟨g, off, rfl, h0⟩ := rd_at HA.out hlt
      obtain ⟨g', off', rfl, h1⟩ := rd_at HB.out hlty
      by_cases he : x[j] = y[j]
      · have HE := Lib.hid he
        rw [he] at h0
        have hne' : (((y[j].toNat : Nat) : Int) != ((y[j].toNat : Nat) : Int)) = false := by simp
        clear he
        generalize (y[j].toNat : Int) = q at *
        go_wp2_with fail
        go_quiet (fail)
        go_wp2_with fail
        exact ⟨⟨j + 1, _, by omega, rfl, take_same HT.out hlt hlty HE.out, rfl⟩, by simp only [intOf]; omega⟩
      · have hne' : (((x[j].toNat : Nat) : Int) != ((y[j].toNat : Nat) : Int)) = true := u8_ne he
        have HE := Lib.hid he
        have HX := Lib.hid hlt
        clear he
        generalize ha : (x[j].toNat : Int) = q at *
        generalize hb : (y[j].toNat : Int) = r at *
        clear ha hb
        go_wp2_with fail
        go_quiet (fail)
        go_wp2_with fail
        go_ret
        exact ⟨by rw [decide_eq_false (by intro h; subst h; exact HE.out rfl)]; rfl, k + nq, by first | rfl | rw [World.drewN_drewN]⟩
    · obtain rfl : j = x.length := by omega
      have hxy : x = y := by have := HT.out; rw [List.take_length, HL.out, List.take_length] at this; exact this
      have HXY := Lib.hid hxy
      clear hxy
      go_wp2_with fail
      go_ret
      exact ⟨by rw [decide_eq_true HXY.out]; rfl, _, rfl⟩
theorem same_any {w : World} {va vb : Value} (x y : List UInt8) (ha : Rd w va (x.map byteV)) (hb : Rd w vb (y.map byteV)) (hm : x.length ≤ maxLen) (hm2 : y.length ≤ maxLen) :
    Calls Tryd.prog 73 #[va, vb] w fun e w' => e = .returned (.bool (decide (x = y))) ∧ ∃ k, w.drewN k = w' := by
  by_cases hl : x.length = y.length
  · exact same_long x y ha hb hl hm
  · rw [decide_eq_false (by intro h; subst h; exact hl rfl)]
    obtain ⟨A, c, rfl, _, _⟩ := rd_slice ha
    obtain ⟨B, d, rfl, _, _⟩ := rd_slice hb
    unfold maxLen at hm hm2
    have hne : ((x.length : Int) != (y.length : Int)) = true := by rw [bne_iff_ne]; omega
    clear ha hb hl
    go_enter Tryd.func73, Tryd.ntmps73
    go_wp2_with fail
    go_ret
    exact ⟨rfl, 0, rfl⟩
end Go.Proofs.YtedddekkbgaolaaDoor
