/- The walks of fill and letters: rows of bytes made one by one. -/
import Derived.Test.YtedddekkbgaolaaDoorNm2
import Derived.Test.YtedddekkbgaolaaDoorCr
namespace Go.Proofs.YtedddekkbgaolaaDoor
open Go.RowKit Me

def nilV : Value := .slice none 0 0
def RelFill (B : Nat) (w : World) (n : Int) (c : UInt8) (v i : Value) (wr : World) : Prop :=
  ∃ j : Nat, j ≤ n.toNat ∧ i = .int .i64 j ∧ Grew B w (.slice none 0 0) (List.replicate j c) v wr
theorem byteV_nat (c : UInt8) : byteV c = .int .u8 (c.toNat : Int) := rfl
set_option maxRecDepth 100000 in
set_option maxHeartbeats 1000000 in
theorem fill_any {B : Nat} {w : World} (hB : B ≤ w.heap.size) (n : Int) (h1 : -9223372036854775808 ≤ n) (h2 : n ≤ 100000000) (c : UInt8) :
    Calls Tryd.prog 46 #[.int .i64 n, .int .u8 (c.toNat : Int)] w (NumPost B w (.slice none 0 0) (List.replicate n.toNat c)) := by
  have hb := Lib.hid (byteV_nat c)
  have hc := c.toNat_lt
  obtain ⟨i0, hi, hz0, hz1, hz2⟩ := info_parts info5
  generalize hx : (c.toNat : Int) = x at *
  have hx1 : 0 ≤ x := by omega
  have hx2 : x ≤ 255 := by omega
  clear hx hc
  go_enter Tryd.func46, Tryd.ntmps46
  go_wp2_with fail
  go_loopw [5, 6] (fun v i wr => RelFill B w n c v i wr) (fun _ i _ => n.toNat - (intOf i).toNat)
  case atStart => exact ⟨0, by omega, rfl, World.ownsRow_nil _ _ _ _, Mods.refl _ _, Or.inl rfl⟩
  case round =>
    obtain ⟨j, hj, rfl, hg⟩ := hrel
    have HG := Lib.hid hg
    have hlen : (List.replicate j c).length = j := by simp
    generalize hM : List.replicate j c = M at *
    have HM := Lib.hid hM
    have HL := Lib.hid hlen
    obtain ⟨A, cc, rfl⟩ := own_ctor hg.1
    have hsz := HG.out.2.1.size
    clear hg hM
    rw [hlen]
    clear hlen
    rcases Int.lt_or_le (j : Int) n with hlt | hge
    · go_wp2_with (at_builtin; go_must (refine wpList_app _ rfl _ _ 43 43 rfl B 5 i0 (.int .u8 0) 1 1 Tryd.underlying43 hi hz0 hz1 hz2 rfl _ _ _ rfl (by have h := HG.out.1.alloc (.cells #[.int .u8 x] 5); rw [HL.out] at h; exact h) _ 1 [.int .u8 x] rfl ?c1 ?c2 ?c3 ?c4 ?_))
      case c1 => exact src_one Tryd.underlying43 _ _ _ rfl
      case c2 => unfold maxLen; omega
      case c3 => omega
      case c4 => simp; omega
      intro v1 w1 hown hgrow hat
      have hG := HG.out.app _ (by rw [HL.out]; exact hown) (bs := [c]) (by simp [hb.out]) rfl (by rw [HL.out]; exact hgrow) (by rw [HL.out]; simpa using hat)
      rw [← HM.out, show List.replicate j c ++ [c] = List.replicate (j + 1) c from List.replicate_succ'.symm] at hG
      have HR : Hid (RelFill B w n c v1 (.int .i64 ((j : Int) + 1)) w1) := Lib.hid ⟨j + 1, by omega, rfl, hG⟩
      obtain ⟨A1, c1, rfl⟩ := own_ctor hG.1
      clear hG hown hgrow hat
      go_wp2_with fail
      exact ⟨HR.out, by simp [intOf]; omega⟩
    · obtain rfl : j = n.toNat := by omega
      go_wp2_with fail
      go_ret
      refine ⟨_, rfl, ?_⟩
      rw [HM.out]
      have := HG.out
      rw [HL.out] at this
      exact this
/-- The letters of a text: its first two thousand bytes, each as one of 1 .. 127. -/
def lettersL (l : List UInt8) : List UInt8 := (l.take 2000).map fun b => UInt8.ofNat (b.toNat % 127 + 1)
theorem lettersL_length (l : List UInt8) : (lettersL l).length ≤ 2000 := by simp [lettersL]; omega
def RelLet (w : World) (s : ByteArray) (v i : Value) (wr : World) : Prop :=
  ∃ j : Nat, j ≤ s.size ∧ j ≤ 2000 ∧ i = .int .i64 j ∧ Grew w.heap.size w (.slice none 0 0) (lettersL (s.data.toList.take j)) v wr
theorem letters_snoc {l : List UInt8} {j : Nat} (h : j < l.length) (h2 : j < 2000) : lettersL (l.take (j + 1)) = lettersL (l.take j) ++ [UInt8.ofNat (l[j].toNat % 127 + 1)] := by
  unfold lettersL
  rw [List.take_take, List.take_take, Nat.min_eq_right (by omega), Nat.min_eq_right (by omega), List.take_succ_eq_append_getElem h, List.map_append]
  rfl
theorem conv_own {w : World} {B : Nat} {v : Value} {L : List UInt8} (h : w.ownsRow B 5 1 v L.length (L.map byteV)) : (convert 43 9 v).run Tryd.prog w = .ok (.string ⟨L.toArray⟩) w := by
  rcases ownsRow_form h with ⟨rfl, h0, -⟩ | ⟨g, cap, rfl, -⟩
  · obtain rfl : L = [] := List.length_eq_zero_iff.1 h0
    kernel_rfl
  · refine conv_bytes cap L fun j b hj => ?_
    obtain ⟨A, c, e, h1, h2, h3⟩ := Rd.of_own h
    obtain ⟨g', off', e', h4⟩ := h3 j (byteV b) (by simp [hj])
    injection e with e0 _ _
    rw [← e0] at e'
    injection e' with e1
    injection e1 with e2 e3 _
    subst e2
    subst e3
    exact h4
set_option maxRecDepth 100000 in
set_option maxHeartbeats 1000000 in
theorem letters_any {w : World} (s : ByteArray) (hs : s.size ≤ maxLen) :
    Calls Tryd.prog 98 #[.string s] w fun e w' => e = .returned (.string ⟨(lettersL s.data.toList).toArray⟩) ∧ Mods [] w w' := by
  unfold maxLen at hs
  obtain ⟨i0, hi, hz0, hz1, hz2⟩ := info_parts info5
  have HSZ := Lib.hid (size_list s)
  go_enter Tryd.func98, Tryd.ntmps98
  go_wp2_with fail
  go_loopw [3, 4] (fun v i wr => RelLet w s v i wr) (fun _ i _ => s.size - (intOf i).toNat)
  case atStart => exact ⟨0, by omega, by omega, rfl, World.ownsRow_nil _ _ _ _, Mods.refl _ _, Or.inl rfl⟩
  case round =>
    obtain ⟨j, hj, hj2, rfl, hg⟩ := hrel
    have HG := Lib.hid hg
    have hlen : (lettersL (s.data.toList.take j)).length = j := by rw [lettersL, List.length_map, List.length_take, List.length_take, size_list]; omega
    generalize hM : lettersL (s.data.toList.take j) = M at *
    have HM := Lib.hid hM
    have HL := Lib.hid hlen
    obtain ⟨A, cc, rfl⟩ := own_ctor hg.1
    have hsz := HG.out.2.1.size
    clear hg hM
    rw [hlen]
    clear hlen
    rcases Nat.lt_or_ge j s.size with hlt | hge
    · rcases Nat.lt_or_ge j 2000 with hlt2 | hge2
      · have hN := Lib.hid (letters_snoc (l := s.data.toList) (j := j) (by rw [size_list]; exact hlt) hlt2)
        have hq : (s.data.toList[j]'(by rw [size_list]; exact hlt)).toNat = (s[j]'hlt).toNat := rfl
        rw [hq] at hN
        have hqlt := (s[j]'hlt).toNat_lt
        go_wp2_with (at_builtin; go_must (refine wpList_app _ rfl _ _ 43 43 rfl w.heap.size 5 i0 (.int .u8 0) 1 1 Tryd.underlying43 hi hz0 hz1 hz2 rfl _ _ _ rfl (by have h := HG.out.1.alloc (.cells #[.int .u8 (((s[j]'hlt).toNat : Int) % 127 + 1)] 5); rw [HL.out] at h; exact h) _ 1 [.int .u8 (((s[j]'hlt).toNat : Int) % 127 + 1)] rfl ?c1 ?c2 ?c3 ?c4 ?_))
        case c1 => exact src_one Tryd.underlying43 _ _ _ rfl
        case c2 => unfold maxLen; omega
        case c3 => omega
        case c4 => simp; omega
        intro v1 w1 hown hgrow hat
        have hG := HG.out.app _ (by rw [HL.out]; exact hown) (bs := [UInt8.ofNat ((s[j]'hlt).toNat % 127 + 1)]) (by rw [List.map_cons, List.map_nil, byteV_of (by omega)]; simp) rfl (by rw [HL.out]; exact hgrow) (by rw [HL.out]; simpa using hat)
        rw [← HM.out, ← hN.out] at hG
        have HR : Hid (RelLet w s v1 (.int .i64 ((j : Int) + 1)) w1) := Lib.hid ⟨j + 1, by omega, by omega, rfl, hG⟩
        obtain ⟨A1, c1, rfl⟩ := own_ctor hG.1
        clear hG hown hgrow hat
        go_wp2_with fail
        exact ⟨HR.out, by simp [intOf]; omega⟩
      · obtain rfl : j = 2000 := by omega
        have hC := conv_own HG.out.1
        rw [HL.out] at hC
        generalize hS : (⟨M.toArray⟩ : ByteArray) = S at *
        have HS := Lib.hid hS
        clear hS
        go_wp2_with fail
        go_ret
        refine ⟨?_, HG.out.2.1⟩
        change Ending.returned (Value.string S) = _
        rw [← HS.out, ← HM.out, lettersL, List.take_take]
        rfl
    · have hC := conv_own HG.out.1
      rw [HL.out] at hC
      generalize hS : (⟨M.toArray⟩ : ByteArray) = S at *
      have HS := Lib.hid hS
      clear hS
      go_wp2_with fail
      go_ret
      refine ⟨?_, HG.out.2.1⟩
      change Ending.returned (Value.string S) = _
      rw [← HS.out, ← HM.out, List.take_of_length_le (by rw [size_list]; omega)]
end Go.Proofs.YtedddekkbgaolaaDoor
