/- The walk of WireMade, up to the text and its ends. -/
import Derived.Test.YtedddekkbgaolaaDoorCr
import Derived.Test.YtedddekkbgaolaaDoorQr
namespace Go.Proofs.YtedddekkbgaolaaDoor
open Go.RowKit Me

def intZ (z : Int) : Value := .int .i64 z
def numsOf (l : List Int) : List Nat := l.map Tx.numOf
theorem numsOf_num (l : List Int) : ∀ n ∈ numsOf l, Tx.IsNum n := by
  intro n hn
  obtain ⟨z, _, rfl⟩ := List.mem_map.1 hn
  exact Tx.isNum_numOf z
theorem numsOf_take (l : List Int) (k : Nat) : (numsOf l).take k = numsOf (l.take k) := by simp [numsOf]
def madeS (l : List Int) : ByteArray := ⟨(Tx.made (numsOf l)).toArray⟩
def endsV (l : List Int) : List Value := (Tx.endsFrom 0 (numsOf l)).map intV
theorem endsFrom_snoc : ∀ (ns : List Nat) (p n : Nat), Tx.endsFrom p (ns ++ [n]) = Tx.endsFrom p ns ++ [p + (Tx.made (ns ++ [n])).length]
  | [], p, n => by simp [Tx.endsFrom, Tx.made]
  | m :: ns, p, n => by
    simp only [List.cons_append, Tx.endsFrom, endsFrom_snoc ns _ n, Tx.made_cons, List.length_append]
    simp [Nat.add_assoc]
theorem madeS_size (l : List Int) : (madeS l).size ≤ 4 * l.length := by
  have := Tx.made_length_le (numsOf l)
  simp only [numsOf, List.length_map] at this
  simpa [madeS, numsOf, ByteArray.size] using this
theorem madeS_snoc (l : List Int) (z : Int) : madeS (l ++ [z]) = madeS l ++ ⟨(Tx.charL (Tx.numOf z)).toArray⟩ := by
  apply ByteArray.ext
  simp [madeS, numsOf, Tx.made]
theorem endsV_snoc (l : List Int) (z : Int) : endsV (l ++ [z]) = endsV l ++ [.int .i64 ((madeS (l ++ [z])).size : Int)] := by
  simp only [endsV, numsOf, List.map_append, List.map_cons, List.map_nil, endsFrom_snoc]
  simp [madeS, numsOf, intV, ByteArray.size]
theorem endsV_length (l : List Int) : (endsV l).length = l.length + 1 := by simp [endsV, Tx.endsFrom_length, numsOf]
def endsN (l : List Int) : List Nat := Tx.endsFrom 0 (numsOf l)
theorem endsN_length (l : List Int) : (endsN l).length = l.length + 1 := by simp [endsN, Tx.endsFrom_length, numsOf]
theorem cutL_neg (l : List UInt8) (m : Int) (h : m < 0) : Tx.cutL l m = 0 := Tx.cutL_stop (by have := Tx.wid_pos l; omega)
theorem madeS_list (l : List Int) : (madeS l).data.toList = Tx.made (numsOf l) := by simp [madeS]
theorem lastEnd_snoc (m : Int) (e : Nat) (a : List Nat) (x : Nat) : Tx.lastEnd m e (a ++ [x]) = if (x : Int) ≤ m then x else Tx.lastEnd m e a := by simp [Tx.lastEnd]
theorem lastEnd_cut (l : List Int) (m : Int) : Tx.lastEnd m 0 (endsN l) = Tx.cutL (madeS l).data.toList m := by
  rw [endsN, Tx.lastEnd_made m _ 0 0 (numsOf_num l), madeS_list]
  by_cases h : (0 : Int) ≤ m
  · rw [if_pos (by simpa using h)]
    simp
  · rw [if_neg (by simpa using h), cutL_neg _ _ (by omega)]
theorem made_is_good (l : List Int) : Tx.good (madeS l).data.toList = true := by
  rw [madeS_list]
  exact Tx.made_good _ (numsOf_num l)
theorem endsN_at (l : List Int) (j : Nat) (h : j ≤ l.length) : (endsN l)[j]? = some (Tx.made ((numsOf l).take j)).length := by
  rw [endsN, Tx.endsFrom_take _ 0 j (by simpa [numsOf] using h)]
  simp
theorem endsN_le (l : List Int) (j x : Nat) (h : (endsN l)[j]? = some x) : x ≤ (madeS l).size := by
  have hj : j < (endsN l).length := (List.getElem?_eq_some_iff.1 h).1
  rw [endsN_length] at hj
  rw [endsN_at l j (by omega)] at h
  have hx := Option.some.inj h
  rw [← size_list, madeS_list, ← hx]
  have e : Tx.made (numsOf l) = Tx.made ((numsOf l).take j) ++ Tx.made ((numsOf l).drop j) := by rw [← Tx.made_append, List.take_append_drop]
  rw [e, List.length_append]
  omega
theorem Rd.take {w : World} {A : Option Addr} {n c : Nat} {xs : List Value} (h : Rd w (.slice A n c) xs) (k : Nat) (hk : k ≤ xs.length) : Rd w (.slice A k c) (xs.take k) := by
  obtain ⟨A', c', e, h1, h2, h3⟩ := h
  injection e with e0 e1 e2
  subst e0
  subst e2
  refine ⟨A, c, by rw [List.length_take, Nat.min_eq_left hk], by rw [List.length_take]; omega, h2, fun j u hu => h3 j u ?_⟩
  rw [List.getElem?_take] at hu
  split at hu
  · exact hu
  · cases hu
theorem extract_list (S : ByteArray) (a b : Nat) : (S.extract a b).data.toList = (S.data.toList.take b).drop a := by
  rw [Lib.extract_data]
  simp [List.drop_take]
/-- Something that is no character between two characters. -/
theorem spoilt_bad (l : List Int) (j k x : Nat) (hj : j ≤ l.length) (hx : (endsN l)[j]? = some x) : Tx.good ((madeS l).extract 0 x ++ ⟨(Tx.spoilL k).toArray⟩ ++ (madeS l).extract x (madeS l).size).data.toList = false := by
  rw [endsN_at l j hj] at hx
  have hx' := Option.some.inj hx
  have e : Tx.made (numsOf l) = Tx.made ((numsOf l).take j) ++ Tx.made ((numsOf l).drop j) := by rw [← Tx.made_append, List.take_append_drop]
  have h1 : ((madeS l).extract 0 x).data.toList = Tx.made ((numsOf l).take j) := by
    rw [extract_list, madeS_list, e, ← hx']
    simp
  have h2 : ((madeS l).extract x (madeS l).size).data.toList = Tx.made ((numsOf l).drop j) := by
    rw [extract_list, ← size_list, madeS_list, List.take_length, e, ← hx']
    simp
  have := Tx.made_spoilt (numsOf l) k j (numsOf_num l)
  rw [← h1, ← h2] at this
  simpa using this
def RelMost (w2 : World) (n : Nat) (t : Value) (wr : World) : Prop := ∃ m : Int, -1 ≤ m ∧ m ≤ (n : Int) + 2 ∧ t = .int .i64 m ∧ Mods [] w2 wr
def RelEnd (w3 : World) (L : List Nat) (m : Int) (e i : Value) (wr : World) : Prop := ∃ j q : Nat, j ≤ L.length ∧ i = .int .i64 j ∧ e = .int .i64 (q : Int) ∧ q = Tx.lastEnd m 0 (L.take j) ∧ w3 = wr
def RelMade (w : World) (l : List Int) (s v i : Value) (wr : World) : Prop :=
  ∃ k : Nat, k ≤ l.length ∧ i = .int .i64 k ∧ s = .string (madeS (l.take k)) ∧ wr.ownsRow 0 3 1 v (k + 1) (endsV (l.take k)) ∧ (∀ b, v.ownBlock = some b → w.heap.size ≤ b) ∧ Mods [] w wr
theorem numOf_of (z : Int) : Tx.numOf z = if 55296 ≤ pickN z 1114111 + 1 ∧ pickN z 1114111 + 1 ≤ 57343 then pickN z 1114111 + 1 - 2048 else pickN z 1114111 + 1 := rfl
theorem relMade_next {w w3 w4 : World} {l : List Int} {k : Nat} {z : Int} {S1 C : ByteArray} {v v2 : Value} {o : Obj} (hlt : k < l.length) (hT : l.take (k + 1) = l.take k ++ [z]) (_h1 : madeS (l.take k) = S1) (hS : madeS (l.take k ++ [z]) = S1 ++ C)
    (hE : endsV (l.take k ++ [z]) = endsV (l.take k) ++ [.int .i64 ((madeS (l.take k ++ [z])).size : Int)]) (_ho : w3.ownsRow 0 3 1 v (k + 1) (endsV (l.take k))) (hob : ∀ b, v.ownBlock = some b → w.heap.size ≤ b) (hm : Mods [] w w3)
    (hown : w4.ownsRow 0 3 1 v2 (k + 1 + 1) (endsV (l.take k) ++ [.int .i64 ((S1.size : Int) + (C.size : Int))])) (hgrow : (w3.alloc o).grownBy w4 v.ownBlock) (hat : v2.ownBlock = v.ownBlock ∨ v2.ownBlock = some (w3.heap.size + 1)) :
    RelMade w l (.string (S1 ++ C)) v2 (.int .i64 ((k : Int) + 1)) w4 := by
  refine ⟨k + 1, by omega, rfl, by rw [hT, hS], ?_, fun b hb => ?_, (hm.alloc o).grown hgrow (fun b hb => Or.inr (hob b hb))⟩
  · rw [hT, hE, hS, ByteArray.size_append]
    rw [show ((S1.size + C.size : Nat) : Int) = (S1.size : Int) + (C.size : Int) by omega]
    exact hown
  · rcases hat with e | e
    · exact hob b (by rw [← e]; exact hb)
    · rw [e] at hb
      have := Option.some.inj hb
      have := hm.size
      omega
set_option maxRecDepth 100000 in
set_option maxHeartbeats 2000000 in
theorem made_short {w : World} (hT : Lib.Utf8Tabs 0 1 w) {va : Value} (l : List Int) (hv : Rd w va (l.map intZ)) (hl : l.length ≤ 2000) (hz : ∀ z ∈ l, -9223372036854775808 ≤ z ∧ z ≤ 9223372036854775807) (at_ how : Int)
    (a1 : -9223372036854775808 ≤ at_) (a2 : at_ ≤ 9223372036854775807) (b1 : -9223372036854775808 ≤ how) (b2 : how ≤ 9223372036854775807) :
    Calls Tryd.prog 4 #[va, .int .i64 at_, .int .i64 how] w fun e w' => e = .returned (.bool true) ∧ Mods [] w w' := by
  have HT := Lib.hid hT
  have HV := Lib.hid hv
  have HZ := Lib.hid hz
  obtain ⟨A, c, hva, hlc, hcm, -⟩ := hv
  rw [List.length_map] at hva hlc
  subst hva
  clear hT hz hcm hlc
  obtain ⟨i0, hi, hz0, hz1, hz2⟩ := info_parts info3
  have hi0 := info_parts info3
  go_enter Tryd.func4, Tryd.ntmps4
  go_wp2_with (at_builtin; go_must (refine wpList_app _ rfl _ _ 25 25 rfl 0 3 i0 (.int .i64 0) 1 8 Tryd.underlying25 hi hz0 hz1 hz2 rfl (.slice none 0 0) 0 [] rfl (World.ownsRow_nil _ _ _ _) _ 1 [.int .i64 0] rfl ?c1 ?c2 ?c3 ?c4 ?_))
  case c1 => exact src_one Tryd.underlying25 _ _ _ rfl
  case c2 => unfold maxLen; omega
  case c3 => omega
  case c4 => exact Nat.zero_le _
  intro v1 w1 hown hgrow hat
  have m1 := ((Mods.refl [] w).alloc (.cells #[.int .i64 0] 3)).grown hgrow (by simp [Value.ownBlock])
  have hob : ∀ b, v1.ownBlock = some b → w.heap.size ≤ b := by
    intro b hb
    rcases hat with e | e
    · rw [e] at hb
      simp [Value.ownBlock] at hb
    · rw [e] at hb
      have := Option.some.inj hb
      omega
  have H1 : Hid (w1.ownsRow 0 3 1 v1 1 (endsV [])) := Lib.hid (by simpa [endsV, numsOf, Tx.endsFrom, intV] using hown)
  have M1 := Lib.hid m1
  have OB := Lib.hid hob
  obtain ⟨A1, c1, rfl⟩ := own_ctor hown
  clear hown hgrow hat m1 hob hi0
  go_wp2_with fail
  go_loopw [7, 8, 9] (fun s v i wr => RelMade w l s v i wr) (fun _ _ i _ => l.length - (intOf i).toNat)
  case atStart => exact ⟨0, by omega, rfl, by simp [madeS, numsOf, Tx.made], by simpa using H1.out, OB.out, M1.out⟩
  case round =>
    obtain ⟨k, hk, rfl, rfl, hown, hob, hm⟩ := hrel
    have HO := Lib.hid hown
    have HOB := Lib.hid hob
    have HM := Lib.hid hm
    obtain ⟨A2, c2, rfl⟩ := own_ctor hown
    have hsz : (madeS (l.take k)).size ≤ 8000 := by have := madeS_size (l.take k); rw [List.length_take] at this; omega
    clear hown hob hm
    rcases Nat.lt_or_ge k l.length with hlt | hge
    · have hrd := HV.out.mods HM.out (by simp)
      have hzk := HZ.out l[k] (by simp)
      have HT1 := Lib.hid (show l.take (k + 1) = l.take k ++ [l[k]] from List.take_succ_eq_append_getElem hlt)
      have hcell : ∃ g off, A = some ⟨g, off, none⟩ ∧ wr.cell? ⟨g, off + k, none⟩ = some (.int .i64 l[k]) := by
        obtain ⟨A', c', e, h1, h2, h3⟩ := hrd
        injection e with e0 _ _
        rw [e0]
        exact h3 k (intZ l[k]) (by simp [hlt])
      obtain ⟨g, off, rfl, hc0⟩ := hcell
      have HS := Lib.hid (madeS_snoc (l.take k) l[k])
      have HE := Lib.hid (endsV_snoc (l.take k) l[k])
      have HNO := Lib.hid (numOf_of l[k])
      have HNU := Lib.hid (Tx.isNum_numOf l[k])
      clear hrd
      generalize l[k] = z at *
      have hp : pickN z 1114111 < 1114111 := by unfold pickN; exact Nat.mod_lt _ (by omega)
      have HP := Lib.hid (pick_any z 1114111 wr hzk.1 hzk.2 (by omega) (by omega))
      generalize pickN z 1114111 = p at *
      go_wp2_with fail
      refine HP.out.mono ?_; rintro e w2 ⟨rfl, rfl⟩
      clear hc0
      generalize hx : (p : Int) = x at *
      have hx0 : 0 ≤ x := by omega
      have hx1 : x < 1114111 := by omega
      have HX := Lib.hid hx
      clear hx hp
      by_cases hs : 55296 ≤ x + 1 ∧ x + 1 ≤ 57343
      · obtain ⟨s1, s2⟩ := hs
        have HQ : Hid (x + 1 - 2048 = ((Tx.numOf z : Nat) : Int)) := Lib.hid (by rw [HNO.out, if_pos (by have := HX.out; omega)]; have := HX.out; omega)
        go_wp2_with fail
        rw [HQ.out]
        refine (char_code (Tx.numOf z) wr HNU.out.2.1).mono ?_; rintro e w3 ⟨rfl, hm⟩
        have hcl := (Tx.charL_len (Tx.numOf z)).2
        have hcs : (⟨(Tx.charL (Tx.numOf z)).toArray⟩ : ByteArray).size ≤ 4 := by simpa [ByteArray.size] using hcl
        generalize (⟨(Tx.charL (Tx.numOf z)).toArray⟩ : ByteArray) = C at *
        have HO3 := Lib.hid (ownsRow_mods HO.out hm (by simp))
        have HM3 := Lib.hid (HM.out.trans hm (by simp))
        clear hm hcl
        generalize hS1 : madeS (l.take k) = S1 at *
        have HS1 := Lib.hid hS1
        clear hS1
        go_wp2_with (at_builtin; go_must (refine wpList_app _ rfl _ _ 25 25 rfl 0 3 i0 (.int .i64 0) 1 8 Tryd.underlying25 hi hz0 hz1 hz2 rfl _ _ _ rfl (HO3.out.alloc _) _ 1 [.int .i64 ((S1.size : Int) + (C.size : Int))] rfl ?c1 ?c2 ?c3 ?c4 ?_))
        case c1 => exact src_one Tryd.underlying25 _ _ _ rfl
        case c2 => unfold maxLen; omega
        case c3 => omega
        case c4 => exact Nat.zero_le _
        intro v2 w4 hown hgrow hat
        have hR := relMade_next hlt HT1.out HS1.out HS.out HE.out HO3.out HOB.out HM3.out hown hgrow hat
        have HR := Lib.hid hR
        obtain ⟨A4, c4, rfl⟩ := own_ctor hown
        clear hR hown hgrow hat
        go_wp2_with fail
        exact ⟨HR.out, by simp only [intOf]; omega⟩
      · have hs' : (0 ≤ x + 1 ∧ x + 1 < 55296) ∨ 57343 < x + 1 := by omega
        clear hs
        rcases hs' with ⟨-, s1⟩ | s1
        · have HQ : Hid (x + 1 = ((Tx.numOf z : Nat) : Int)) := Lib.hid (by rw [HNO.out, if_neg (by have := HX.out; omega)]; have := HX.out; omega)
          go_wp2_with fail
          rw [HQ.out]
          refine (char_code (Tx.numOf z) wr HNU.out.2.1).mono ?_; rintro e w3 ⟨rfl, hm⟩
          have hcl := (Tx.charL_len (Tx.numOf z)).2
          have hcs : (⟨(Tx.charL (Tx.numOf z)).toArray⟩ : ByteArray).size ≤ 4 := by simpa [ByteArray.size] using hcl
          generalize (⟨(Tx.charL (Tx.numOf z)).toArray⟩ : ByteArray) = C at *
          have HO3 := Lib.hid (ownsRow_mods HO.out hm (by simp))
          have HM3 := Lib.hid (HM.out.trans hm (by simp))
          clear hm hcl
          generalize hS1 : madeS (l.take k) = S1 at *
          have HS1 := Lib.hid hS1
          clear hS1
          go_wp2_with (at_builtin; go_must (refine wpList_app _ rfl _ _ 25 25 rfl 0 3 i0 (.int .i64 0) 1 8 Tryd.underlying25 hi hz0 hz1 hz2 rfl _ _ _ rfl (HO3.out.alloc _) _ 1 [.int .i64 ((S1.size : Int) + (C.size : Int))] rfl ?d1 ?d2 ?d3 ?d4 ?_))
          case d1 => exact src_one Tryd.underlying25 _ _ _ rfl
          case d2 => unfold maxLen; omega
          case d3 => omega
          case d4 => exact Nat.zero_le _
          intro v2 w4 hown hgrow hat
          have hR := relMade_next hlt HT1.out HS1.out HS.out HE.out HO3.out HOB.out HM3.out hown hgrow hat
          have HR := Lib.hid hR
          obtain ⟨A4, c4, rfl⟩ := own_ctor hown
          clear hR hown hgrow hat
          go_wp2_with fail
          exact ⟨HR.out, by simp only [intOf]; omega⟩
        · have HQ : Hid (x + 1 = ((Tx.numOf z : Nat) : Int)) := Lib.hid (by rw [HNO.out, if_neg (by have := HX.out; omega)]; have := HX.out; omega)
          go_wp2_with fail
          rw [HQ.out]
          refine (char_code (Tx.numOf z) wr HNU.out.2.1).mono ?_; rintro e w3 ⟨rfl, hm⟩
          have hcl := (Tx.charL_len (Tx.numOf z)).2
          have hcs : (⟨(Tx.charL (Tx.numOf z)).toArray⟩ : ByteArray).size ≤ 4 := by simpa [ByteArray.size] using hcl
          generalize (⟨(Tx.charL (Tx.numOf z)).toArray⟩ : ByteArray) = C at *
          have HO3 := Lib.hid (ownsRow_mods HO.out hm (by simp))
          have HM3 := Lib.hid (HM.out.trans hm (by simp))
          clear hm hcl
          generalize hS1 : madeS (l.take k) = S1 at *
          have HS1 := Lib.hid hS1
          clear hS1
          go_wp2_with (at_builtin; go_must (refine wpList_app _ rfl _ _ 25 25 rfl 0 3 i0 (.int .i64 0) 1 8 Tryd.underlying25 hi hz0 hz1 hz2 rfl _ _ _ rfl (HO3.out.alloc _) _ 1 [.int .i64 ((S1.size : Int) + (C.size : Int))] rfl ?f1 ?f2 ?f3 ?f4 ?_))
          case f1 => exact src_one Tryd.underlying25 _ _ _ rfl
          case f2 => unfold maxLen; omega
          case f3 => omega
          case f4 => exact Nat.zero_le _
          intro v2 w4 hown hgrow hat
          have hR := relMade_next hlt HT1.out HS1.out HS.out HE.out HO3.out HOB.out HM3.out hown hgrow hat
          have HR := Lib.hid hR
          obtain ⟨A4, c4, rfl⟩ := own_ctor hown
          clear hR hown hgrow hat
          go_wp2_with fail
          exact ⟨HR.out, by simp only [intOf]; omega⟩
    · obtain rfl : k = l.length := by omega
      have hO := HO.out
      rw [List.take_length] at hO hsz ⊢
      have hE : endsV l = (endsN l).map intV := rfl
      rw [hE] at hO
      obtain ⟨gE, rfl⟩ : ∃ gE, A2 = some ⟨gE, 0, none⟩ := by
        rcases ownsRow_form hO with ⟨h, -, -⟩ | ⟨g, c', h, -⟩
        · injection h with _ h _
          omega
        · injection h with h _ _
          exact ⟨g, h⟩
      have HO1 := Lib.hid hO
      have HG := Lib.hid (fun w' hT' => good_is (madeS l) true w' (by unfold maxLen; omega) hT' (made_is_good l))
      have HCUT := Lib.hid (fun m => lastEnd_cut l m)
      have HSP := Lib.hid (spoilt_bad l)
      have hEL := endsN_length l
      have hxs : ∀ (j x : Nat), (endsN l)[j]? = some x → x ≤ (madeS l).size := fun j x h => endsN_le l j x h
      have HXS := Lib.hid hxs
      clear hO hE HO hk hge hxs
      generalize madeS l = S at *
      generalize endsN l = E at *
      have HEL := Lib.hid hEL
      have hE1 : E.length ≤ 2001 := by omega
      clear hEL
      go_wp2_with fail
      refine (HG.out wr (tabs_mods HM.out HT.out)).mono ?_; rintro e w2 ⟨rfl, hb2⟩
      have hm2 := below_mods hb2
      have M2 := Lib.hid (HM.out.trans hm2 (by simp))
      have O2 := Lib.hid (ownsRow_mods HO1.out hm2 (by simp))
      have T2 := Lib.hid (tabs_mods M2.out HT.out)
      clear hb2 hm2 HO1
      go_wp2_with fail
      go_loopw [11] (fun t wr' => RelMost w2 S.size t wr') (fun t _ => ((S.size : Int) + 3 - intOf t).toNat)
      case atStart => exact ⟨-1, by omega, by omega, rfl, Mods.refl _ _⟩
      case round =>
        obtain ⟨m, hm1, hm2, rfl, hmm⟩ := hrel
        have HMM := Lib.hid hmm
        clear hmm
        by_cases hle : m ≤ (S.size : Int) + 1
        · go_wp2_with fail
          obtain ⟨wo, rfl⟩ : ∃ wo : World, wo = wr := ⟨_, rfl⟩
          have O3 := Lib.hid (ownsRow_mods O2.out HMM.out (by simp))
          go_loopw [12, 13] (fun e i w' => RelEnd wo E m e i w') (fun _ i _ => E.length - (intOf i).toNat)
          case atStart => exact ⟨0, 0, by omega, rfl, rfl, by simp [Tx.lastEnd], rfl⟩
          case round =>
            obtain ⟨j, q, hj, rfl, rfl, hq, rfl⟩ := hrel
            have HQ := Lib.hid hq
            clear hq
            rcases Nat.lt_or_ge j E.length with hlt | hge
            · have hc0 : wo.cell? ⟨gE, j, none⟩ = some (.int .i64 (E[j] : Int)) := by
                have := O3.out.cells rfl j (intV E[j]) (by simp [hlt])
                simpa [Addr.add_lit, intV] using this
              have HS := Lib.hid (lastEnd_snoc m 0 (E.take j) E[j])
              have HTK := Lib.hid (show E.take (j + 1) = E.take j ++ [E[j]] from List.take_succ_eq_append_getElem hlt)
              generalize E[j] = x at *
              have hlt2 : j < l.length + 1 := by have := HEL.out; omega
              by_cases hx : (x : Int) ≤ m
              · go_wp2_with fail
                exact ⟨⟨j + 1, x, by omega, rfl, rfl, by rw [HTK.out, HS.out, if_pos hx], rfl⟩, by simp only [intOf]; omega⟩
              · go_wp2_with fail
                exact ⟨⟨j + 1, q, by omega, rfl, rfl, by rw [HTK.out, HS.out, if_neg hx, HQ.out], rfl⟩, by simp only [intOf]; omega⟩
            · obtain rfl : j = E.length := by omega
              have hq2 : q = Tx.cutL S.data.toList m := by rw [HQ.out, List.take_length, HCUT.out m]
              have hqs : q ≤ S.size := by rw [hq2, ← size_list]; exact Tx.cutL_le _ _
              have HQ2 := Lib.hid hq2
              have hge2 : l.length + 1 ≤ E.length := by have := HEL.out; omega
              clear hq2
              go_wp2_with fail
              have HCC := Lib.hid (fun w' => cut_any S m w' (by unfold maxLen; omega) (by omega) (by omega))
              rw [← HQ2.out] at HCC
              refine wp_region_quiet (C := InC wo) (by kernel_rfl) (by kernel_rfl) (InC.drew wo) ?_
              dsimp only [List.toList_toArray]
              refine wpQuiet_step (fun K hK => ?_)
              go_simp
              refine ⟨_, fun _ _ => rfl, hK _ ?_⟩
              clear hK K
              refine wpQuiet_step (fun K hK => ?_)
              go_simp
              refine ⟨_, fun _ _ => rfl, hK _ ?_⟩
              clear hK K
              refine wpQuiet_step (fun K hK => ?_)
              go_simp
              refine ⟨_, fun w' hw' => (HCC.out w').mono fun _ _ hh => ⟨hh.1, Mods.trans hw' (below_mods hh.2) (by simp)⟩, hK _ ?_⟩
              clear hK K
              refine wpQuiet_step (fun K hK => ?_)
              go_simp
              refine ⟨_, fun _ _ => rfl, hK _ ?_⟩
              clear hK K
              refine wpQuiet_step (fun K hK => ?_)
              go_simp
              refine ⟨_, fun _ _ => rfl, hK _ ?_⟩
              clear hK K
              refine wpQuiet_step (fun K hK => ?_)
              go_simp
              refine ⟨_, fun _ _ => rfl, hK _ ?_⟩
              clear hK K
              refine wpQuiet_step (fun K hK => ?_)
              go_simp
              refine ⟨_, fun _ _ => rfl, hK _ ?_⟩
              clear hK K
              refine wpQuiet_nil ?_
              intro w4 hw4
              have HM4 : Hid (Mods [] w2 w4) := Lib.hid (Mods.trans HMM.out hw4 (by simp))
              clear hw4
              go_wp2_with fail
              exact ⟨⟨m + 1, by omega, by omega, rfl, HM4.out⟩, by simp only [intOf]; omega⟩
        · obtain ⟨wo, rfl⟩ : ∃ wo : World, wo = wr := ⟨_, rfl⟩
          have O3 := Lib.hid (ownsRow_mods O2.out HMM.out (by simp))
          have M3 := Lib.hid (M2.out.trans HMM.out (by simp))
          have T3 := Lib.hid (tabs_mods M3.out HT.out)
          go_wp2_with fail
          rw [show ((l.length : Int) + 1) = ((l.length + 1 : Nat) : Int) by omega]
          refine (pick_any at_ (l.length + 1) _ a1 a2 (by omega) (by omega)).mono ?_; rintro e w5 ⟨rfl, rfl⟩
          have hj : pickN at_ (l.length + 1) < l.length + 1 := by unfold pickN; exact Nat.mod_lt _ (by omega)
          generalize pickN at_ (l.length + 1) = j at *
          have hjE : j < E.length := by have := HEL.out; omega
          have hc0 : wo.cell? ⟨gE, j, none⟩ = some (.int .i64 (E[j] : Int)) := by
            have := O3.out.cells rfl j (intV E[j]) (by simp [hjE])
            simpa [Addr.add_lit, intV] using this
          have hxs := HXS.out j E[j] (by simp [hjE])
          have HBAD := Lib.hid (HSP.out j (pickN how 12) E[j] (by omega) (by simp [hjE]))
          generalize E[j] = x at *
          go_wp2_with fail
          have HSPL := Lib.hid (fun w' => spoil_any how w' b1 b2)
          have hps : (⟨(Tx.spoilL (pickN how 12)).toArray⟩ : ByteArray).size ≤ 4 := by
            have : (Tx.spoilL (pickN how 12)).length ≤ 4 := by unfold Tx.spoilL; split <;> simp
            simpa [ByteArray.size] using this
          generalize (⟨(Tx.spoilL (pickN how 12)).toArray⟩ : ByteArray) = Pp at *
          have hs1 : (S.extract 0 x).size ≤ 8000 := by simp; omega
          have hs2 : (S.extract x S.size).size ≤ 8000 := by simp; omega
          have HGB := Lib.hid (fun w' hT' => good_is (S.extract 0 x ++ Pp ++ S.extract x S.size) false w' (by unfold maxLen; rw [ByteArray.size_append, ByteArray.size_append]; omega) hT' HBAD.out)
          have hq1 : ¬ 9223372036854775807 < x + Pp.size := by omega
          have hq2 : ¬ 9223372036854775807 < x + Pp.size + (S.size - x) := by omega
          refine wp_region_quiet (C := InC wo) (by kernel_rfl) (by kernel_rfl) (InC.drew wo) ?_
          dsimp only [List.toList_toArray]
          refine wpQuiet_step (fun K hK => ?_)
          go_simp
          refine ⟨_, fun _ _ => rfl, hK _ ?_⟩
          clear hK K
          refine wpQuiet_step (fun K hK => ?_)
          go_simp
          refine ⟨_, fun _ _ => rfl, hK _ ?_⟩
          clear hK K
          refine wpQuiet_step (fun K hK => ?_)
          go_simp
          refine ⟨_, fun _ _ => rfl, hK _ ?_⟩
          clear hK K
          refine wpQuiet_step (fun K hK => ?_)
          go_simp
          refine ⟨_, fun _ _ => rfl, hK _ ?_⟩
          clear hK K
          refine wpQuiet_step (fun K hK => ?_)
          go_simp
          refine ⟨_, fun w' hw' => (HSPL.out w').mono fun _ _ hh => ⟨hh.1, hh.2 ▸ hw'⟩, hK _ ?_⟩
          clear hK K
          refine wpQuiet_step (fun K hK => ?_)
          go_simp
          refine ⟨_, fun _ _ => rfl, hK _ ?_⟩
          clear hK K
          refine wpQuiet_step (fun K hK => ?_)
          go_simp
          refine ⟨_, fun _ _ => rfl, hK _ ?_⟩
          clear hK K
          refine wpQuiet_step (fun K hK => ?_)
          go_simp
          refine ⟨_, fun _ _ => rfl, hK _ ?_⟩
          clear hK K
          refine wpQuiet_step (fun K hK => ?_)
          go_simp
          refine ⟨_, fun _ _ => rfl, hK _ ?_⟩
          clear hK K
          refine wpQuiet_step (fun K hK => ?_)
          go_simp
          refine ⟨_, fun _ _ => rfl, hK _ ?_⟩
          clear hK K
          refine wpQuiet_step (fun K hK => ?_)
          go_simp
          refine ⟨_, fun w' hw' => (HGB.out w' (tabs_mods hw' T3.out)).mono fun _ _ hh => ⟨hh.1, Mods.trans hw' (below_mods hh.2) (by simp)⟩, hK _ ?_⟩
          clear hK K
          refine wpQuiet_step (fun K hK => ?_)
          go_simp
          refine ⟨_, fun _ _ => rfl, hK _ ?_⟩
          clear hK K
          refine wpQuiet_step (fun K hK => ?_)
          go_simp
          refine ⟨_, fun _ _ => rfl, hK _ ?_⟩
          clear hK K
          refine wpQuiet_nil ?_
          intro w4 hw4
          have M4 := Lib.hid (Mods.trans M3.out hw4 (by simp))
          clear hw4
          go_wp2_with fail
          go_ret
          exact ⟨rfl, M4.out⟩
set_option maxRecDepth 100000 in
set_option maxHeartbeats 2000000 in
theorem made_long {w : World} (hT : Lib.Utf8Tabs 0 1 w) {va : Value} (ns : List Int) (hv : Rd w va (ns.map intZ)) (hln : 2000 < ns.length) (hz : ∀ z ∈ ns, -9223372036854775808 ≤ z ∧ z ≤ 9223372036854775807) (at_ how : Int)
    (a1 : -9223372036854775808 ≤ at_) (a2 : at_ ≤ 9223372036854775807) (b1 : -9223372036854775808 ≤ how) (b2 : how ≤ 9223372036854775807) :
    Calls Tryd.prog 4 #[va, .int .i64 at_, .int .i64 how] w fun e w' => e = .returned (.bool true) ∧ Mods [] w w' := by
  have HT := Lib.hid hT
  obtain ⟨A, c, hva, hlc, hcm, hcell⟩ := hv
  rw [List.length_map] at hva hlc
  obtain ⟨g0, off0, rfl, -⟩ := hcell 0 (intZ (ns[0]'(by omega))) (by rw [List.getElem?_map, List.getElem?_eq_getElem (by omega : 0 < ns.length)]; rfl)
  have hv' : Rd w (.slice (some ⟨g0, off0, none⟩) ns.length c) (ns.map intZ) := ⟨_, c, by rw [List.length_map], by rw [List.length_map]; exact hlc, hcm, hcell⟩
  have hv2 := Rd.take hv' 2000 (by rw [List.length_map]; omega)
  rw [← List.map_take] at hv2
  have hl2 : (ns.take 2000).length = 2000 := by rw [List.length_take]; omega
  have hz2' : ∀ z ∈ ns.take 2000, -9223372036854775808 ≤ z ∧ z ≤ 9223372036854775807 := fun z h => hz z (List.mem_of_mem_take h)
  generalize ns.take 2000 = l at *
  have hval : Value.slice (some ⟨g0, off0, none⟩) 2000 c = .slice (some ⟨g0, off0, none⟩) l.length c := by rw [hl2]
  have HVAL := Lib.hid hval
  rw [hval] at hv2
  have HV := Lib.hid hv2
  have HZ := Lib.hid hz2'
  have hl : l.length ≤ 2000 := by omega
  subst hva
  unfold maxLen at hcm
  clear hT hz hcell hv' hz2' hv2 hval hl2
  generalize ns.length = N at *
  obtain ⟨i0, hi, hz0, hz1, hz2⟩ := info_parts info3
  have hi0 := info_parts info3
  go_enter Tryd.func4, Tryd.ntmps4
  go_wp2_with (at_builtin; go_must (refine wpList_app _ rfl _ _ 25 25 rfl 0 3 i0 (.int .i64 0) 1 8 Tryd.underlying25 hi hz0 hz1 hz2 rfl (.slice none 0 0) 0 [] rfl (World.ownsRow_nil _ _ _ _) _ 1 [.int .i64 0] rfl ?c1 ?c2 ?c3 ?c4 ?_))
  case c1 => exact src_one Tryd.underlying25 _ _ _ rfl
  case c2 => unfold maxLen; omega
  case c3 => omega
  case c4 => exact Nat.zero_le _
  intro v1 w1 hown hgrow hat
  have m1 := ((Mods.refl [] w).alloc (.cells #[.int .i64 0] 3)).grown hgrow (by simp [Value.ownBlock])
  have hob : ∀ b, v1.ownBlock = some b → w.heap.size ≤ b := by
    intro b hb
    rcases hat with e | e
    · rw [e] at hb
      simp [Value.ownBlock] at hb
    · rw [e] at hb
      have := Option.some.inj hb
      omega
  have H1 : Hid (w1.ownsRow 0 3 1 v1 1 (endsV [])) := Lib.hid (by simpa [endsV, numsOf, Tx.endsFrom, intV] using hown)
  have M1 := Lib.hid m1
  have OB := Lib.hid hob
  obtain ⟨A1, c1, rfl⟩ := own_ctor hown
  clear hown hgrow hat m1 hob hi0
  go_wp2_with fail
  rw [HVAL.out]
  clear HVAL
  generalize (some ⟨g0, off0, none⟩ : Option Addr) = A at *
  go_loopw [7, 8, 9] (fun s v i wr => RelMade w l s v i wr) (fun _ _ i _ => l.length - (intOf i).toNat)
  case atStart => exact ⟨0, by omega, rfl, by simp [madeS, numsOf, Tx.made], by simpa using H1.out, OB.out, M1.out⟩
  case round =>
    obtain ⟨k, hk, rfl, rfl, hown, hob, hm⟩ := hrel
    have HO := Lib.hid hown
    have HOB := Lib.hid hob
    have HM := Lib.hid hm
    obtain ⟨A2, c2, rfl⟩ := own_ctor hown
    have hsz : (madeS (l.take k)).size ≤ 8000 := by have := madeS_size (l.take k); rw [List.length_take] at this; omega
    clear hown hob hm
    rcases Nat.lt_or_ge k l.length with hlt | hge
    · have hrd := HV.out.mods HM.out (by simp)
      have hzk := HZ.out l[k] (by simp)
      have HT1 := Lib.hid (show l.take (k + 1) = l.take k ++ [l[k]] from List.take_succ_eq_append_getElem hlt)
      have hcell : ∃ g off, A = some ⟨g, off, none⟩ ∧ wr.cell? ⟨g, off + k, none⟩ = some (.int .i64 l[k]) := by
        obtain ⟨A', c', e, h1, h2, h3⟩ := hrd
        injection e with e0 _ _
        rw [e0]
        exact h3 k (intZ l[k]) (by simp [hlt])
      obtain ⟨g, off, rfl, hc0⟩ := hcell
      have HS := Lib.hid (madeS_snoc (l.take k) l[k])
      have HE := Lib.hid (endsV_snoc (l.take k) l[k])
      have HNO := Lib.hid (numOf_of l[k])
      have HNU := Lib.hid (Tx.isNum_numOf l[k])
      clear hrd
      generalize l[k] = z at *
      have hp : pickN z 1114111 < 1114111 := by unfold pickN; exact Nat.mod_lt _ (by omega)
      have HP := Lib.hid (pick_any z 1114111 wr hzk.1 hzk.2 (by omega) (by omega))
      generalize pickN z 1114111 = p at *
      go_wp2_with fail
      refine HP.out.mono ?_; rintro e w2 ⟨rfl, rfl⟩
      clear hc0
      generalize hx : (p : Int) = x at *
      have hx0 : 0 ≤ x := by omega
      have hx1 : x < 1114111 := by omega
      have HX := Lib.hid hx
      clear hx hp
      by_cases hs : 55296 ≤ x + 1 ∧ x + 1 ≤ 57343
      · obtain ⟨s1, s2⟩ := hs
        have HQ : Hid (x + 1 - 2048 = ((Tx.numOf z : Nat) : Int)) := Lib.hid (by rw [HNO.out, if_pos (by have := HX.out; omega)]; have := HX.out; omega)
        go_wp2_with fail
        rw [HQ.out]
        refine (char_code (Tx.numOf z) wr HNU.out.2.1).mono ?_; rintro e w3 ⟨rfl, hm⟩
        have hcl := (Tx.charL_len (Tx.numOf z)).2
        have hcs : (⟨(Tx.charL (Tx.numOf z)).toArray⟩ : ByteArray).size ≤ 4 := by simpa [ByteArray.size] using hcl
        generalize (⟨(Tx.charL (Tx.numOf z)).toArray⟩ : ByteArray) = C at *
        have HO3 := Lib.hid (ownsRow_mods HO.out hm (by simp))
        have HM3 := Lib.hid (HM.out.trans hm (by simp))
        clear hm hcl
        generalize hS1 : madeS (l.take k) = S1 at *
        have HS1 := Lib.hid hS1
        clear hS1
        go_wp2_with (at_builtin; go_must (refine wpList_app _ rfl _ _ 25 25 rfl 0 3 i0 (.int .i64 0) 1 8 Tryd.underlying25 hi hz0 hz1 hz2 rfl _ _ _ rfl (HO3.out.alloc _) _ 1 [.int .i64 ((S1.size : Int) + (C.size : Int))] rfl ?c1 ?c2 ?c3 ?c4 ?_))
        case c1 => exact src_one Tryd.underlying25 _ _ _ rfl
        case c2 => unfold maxLen; omega
        case c3 => omega
        case c4 => exact Nat.zero_le _
        intro v2 w4 hown hgrow hat
        have hR := relMade_next hlt HT1.out HS1.out HS.out HE.out HO3.out HOB.out HM3.out hown hgrow hat
        have HR := Lib.hid hR
        obtain ⟨A4, c4, rfl⟩ := own_ctor hown
        clear hR hown hgrow hat
        go_wp2_with fail
        exact ⟨HR.out, by simp only [intOf]; omega⟩
      · have hs' : (0 ≤ x + 1 ∧ x + 1 < 55296) ∨ 57343 < x + 1 := by omega
        clear hs
        rcases hs' with ⟨-, s1⟩ | s1
        · have HQ : Hid (x + 1 = ((Tx.numOf z : Nat) : Int)) := Lib.hid (by rw [HNO.out, if_neg (by have := HX.out; omega)]; have := HX.out; omega)
          go_wp2_with fail
          rw [HQ.out]
          refine (char_code (Tx.numOf z) wr HNU.out.2.1).mono ?_; rintro e w3 ⟨rfl, hm⟩
          have hcl := (Tx.charL_len (Tx.numOf z)).2
          have hcs : (⟨(Tx.charL (Tx.numOf z)).toArray⟩ : ByteArray).size ≤ 4 := by simpa [ByteArray.size] using hcl
          generalize (⟨(Tx.charL (Tx.numOf z)).toArray⟩ : ByteArray) = C at *
          have HO3 := Lib.hid (ownsRow_mods HO.out hm (by simp))
          have HM3 := Lib.hid (HM.out.trans hm (by simp))
          clear hm hcl
          generalize hS1 : madeS (l.take k) = S1 at *
          have HS1 := Lib.hid hS1
          clear hS1
          go_wp2_with (at_builtin; go_must (refine wpList_app _ rfl _ _ 25 25 rfl 0 3 i0 (.int .i64 0) 1 8 Tryd.underlying25 hi hz0 hz1 hz2 rfl _ _ _ rfl (HO3.out.alloc _) _ 1 [.int .i64 ((S1.size : Int) + (C.size : Int))] rfl ?d1 ?d2 ?d3 ?d4 ?_))
          case d1 => exact src_one Tryd.underlying25 _ _ _ rfl
          case d2 => unfold maxLen; omega
          case d3 => omega
          case d4 => exact Nat.zero_le _
          intro v2 w4 hown hgrow hat
          have hR := relMade_next hlt HT1.out HS1.out HS.out HE.out HO3.out HOB.out HM3.out hown hgrow hat
          have HR := Lib.hid hR
          obtain ⟨A4, c4, rfl⟩ := own_ctor hown
          clear hR hown hgrow hat
          go_wp2_with fail
          exact ⟨HR.out, by simp only [intOf]; omega⟩
        · have HQ : Hid (x + 1 = ((Tx.numOf z : Nat) : Int)) := Lib.hid (by rw [HNO.out, if_neg (by have := HX.out; omega)]; have := HX.out; omega)
          go_wp2_with fail
          rw [HQ.out]
          refine (char_code (Tx.numOf z) wr HNU.out.2.1).mono ?_; rintro e w3 ⟨rfl, hm⟩
          have hcl := (Tx.charL_len (Tx.numOf z)).2
          have hcs : (⟨(Tx.charL (Tx.numOf z)).toArray⟩ : ByteArray).size ≤ 4 := by simpa [ByteArray.size] using hcl
          generalize (⟨(Tx.charL (Tx.numOf z)).toArray⟩ : ByteArray) = C at *
          have HO3 := Lib.hid (ownsRow_mods HO.out hm (by simp))
          have HM3 := Lib.hid (HM.out.trans hm (by simp))
          clear hm hcl
          generalize hS1 : madeS (l.take k) = S1 at *
          have HS1 := Lib.hid hS1
          clear hS1
          go_wp2_with (at_builtin; go_must (refine wpList_app _ rfl _ _ 25 25 rfl 0 3 i0 (.int .i64 0) 1 8 Tryd.underlying25 hi hz0 hz1 hz2 rfl _ _ _ rfl (HO3.out.alloc _) _ 1 [.int .i64 ((S1.size : Int) + (C.size : Int))] rfl ?f1 ?f2 ?f3 ?f4 ?_))
          case f1 => exact src_one Tryd.underlying25 _ _ _ rfl
          case f2 => unfold maxLen; omega
          case f3 => omega
          case f4 => exact Nat.zero_le _
          intro v2 w4 hown hgrow hat
          have hR := relMade_next hlt HT1.out HS1.out HS.out HE.out HO3.out HOB.out HM3.out hown hgrow hat
          have HR := Lib.hid hR
          obtain ⟨A4, c4, rfl⟩ := own_ctor hown
          clear hR hown hgrow hat
          go_wp2_with fail
          exact ⟨HR.out, by simp only [intOf]; omega⟩
    · obtain rfl : k = l.length := by omega
      have hO := HO.out
      rw [List.take_length] at hO hsz ⊢
      have hE : endsV l = (endsN l).map intV := rfl
      rw [hE] at hO
      obtain ⟨gE, rfl⟩ : ∃ gE, A2 = some ⟨gE, 0, none⟩ := by
        rcases ownsRow_form hO with ⟨h, -, -⟩ | ⟨g, c', h, -⟩
        · injection h with _ h _
          omega
        · injection h with h _ _
          exact ⟨g, h⟩
      have HO1 := Lib.hid hO
      have HG := Lib.hid (fun w' hT' => good_is (madeS l) true w' (by unfold maxLen; omega) hT' (made_is_good l))
      have HCUT := Lib.hid (fun m => lastEnd_cut l m)
      have HSP := Lib.hid (spoilt_bad l)
      have hEL := endsN_length l
      have hxs : ∀ (j x : Nat), (endsN l)[j]? = some x → x ≤ (madeS l).size := fun j x h => endsN_le l j x h
      have HXS := Lib.hid hxs
      clear hO hE HO hk hge hxs
      generalize madeS l = S at *
      generalize endsN l = E at *
      have HEL := Lib.hid hEL
      have hE1 : E.length ≤ 2001 := by omega
      clear hEL
      go_wp2_with fail
      refine (HG.out wr (tabs_mods HM.out HT.out)).mono ?_; rintro e w2 ⟨rfl, hb2⟩
      have hm2 := below_mods hb2
      have M2 := Lib.hid (HM.out.trans hm2 (by simp))
      have O2 := Lib.hid (ownsRow_mods HO1.out hm2 (by simp))
      have T2 := Lib.hid (tabs_mods M2.out HT.out)
      clear hb2 hm2 HO1
      go_wp2_with fail
      go_loopw [11] (fun t wr' => RelMost w2 S.size t wr') (fun t _ => ((S.size : Int) + 3 - intOf t).toNat)
      case atStart => exact ⟨-1, by omega, by omega, rfl, Mods.refl _ _⟩
      case round =>
        obtain ⟨m, hm1, hm2, rfl, hmm⟩ := hrel
        have HMM := Lib.hid hmm
        clear hmm
        by_cases hle : m ≤ (S.size : Int) + 1
        · go_wp2_with fail
          obtain ⟨wo, rfl⟩ : ∃ wo : World, wo = wr := ⟨_, rfl⟩
          have O3 := Lib.hid (ownsRow_mods O2.out HMM.out (by simp))
          go_loopw [12, 13] (fun e i w' => RelEnd wo E m e i w') (fun _ i _ => E.length - (intOf i).toNat)
          case atStart => exact ⟨0, 0, by omega, rfl, rfl, by simp [Tx.lastEnd], rfl⟩
          case round =>
            obtain ⟨j, q, hj, rfl, rfl, hq, rfl⟩ := hrel
            have HQ := Lib.hid hq
            clear hq
            rcases Nat.lt_or_ge j E.length with hlt | hge
            · have hc0 : wo.cell? ⟨gE, j, none⟩ = some (.int .i64 (E[j] : Int)) := by
                have := O3.out.cells rfl j (intV E[j]) (by simp [hlt])
                simpa [Addr.add_lit, intV] using this
              have HS := Lib.hid (lastEnd_snoc m 0 (E.take j) E[j])
              have HTK := Lib.hid (show E.take (j + 1) = E.take j ++ [E[j]] from List.take_succ_eq_append_getElem hlt)
              generalize E[j] = x at *
              have hlt2 : j < l.length + 1 := by have := HEL.out; omega
              by_cases hx : (x : Int) ≤ m
              · go_wp2_with fail
                exact ⟨⟨j + 1, x, by omega, rfl, rfl, by rw [HTK.out, HS.out, if_pos hx], rfl⟩, by simp only [intOf]; omega⟩
              · go_wp2_with fail
                exact ⟨⟨j + 1, q, by omega, rfl, rfl, by rw [HTK.out, HS.out, if_neg hx, HQ.out], rfl⟩, by simp only [intOf]; omega⟩
            · obtain rfl : j = E.length := by omega
              have hq2 : q = Tx.cutL S.data.toList m := by rw [HQ.out, List.take_length, HCUT.out m]
              have hqs : q ≤ S.size := by rw [hq2, ← size_list]; exact Tx.cutL_le _ _
              have HQ2 := Lib.hid hq2
              have hge2 : l.length + 1 ≤ E.length := by have := HEL.out; omega
              clear hq2
              go_wp2_with fail
              have HCC := Lib.hid (fun w' => cut_any S m w' (by unfold maxLen; omega) (by omega) (by omega))
              rw [← HQ2.out] at HCC
              refine wp_region_quiet (C := InC wo) (by kernel_rfl) (by kernel_rfl) (InC.drew wo) ?_
              dsimp only [List.toList_toArray]
              refine wpQuiet_step (fun K hK => ?_)
              go_simp
              refine ⟨_, fun _ _ => rfl, hK _ ?_⟩
              clear hK K
              refine wpQuiet_step (fun K hK => ?_)
              go_simp
              refine ⟨_, fun _ _ => rfl, hK _ ?_⟩
              clear hK K
              refine wpQuiet_step (fun K hK => ?_)
              go_simp
              refine ⟨_, fun w' hw' => (HCC.out w').mono fun _ _ hh => ⟨hh.1, Mods.trans hw' (below_mods hh.2) (by simp)⟩, hK _ ?_⟩
              clear hK K
              refine wpQuiet_step (fun K hK => ?_)
              go_simp
              refine ⟨_, fun _ _ => rfl, hK _ ?_⟩
              clear hK K
              refine wpQuiet_step (fun K hK => ?_)
              go_simp
              refine ⟨_, fun _ _ => rfl, hK _ ?_⟩
              clear hK K
              refine wpQuiet_step (fun K hK => ?_)
              go_simp
              refine ⟨_, fun _ _ => rfl, hK _ ?_⟩
              clear hK K
              refine wpQuiet_step (fun K hK => ?_)
              go_simp
              refine ⟨_, fun _ _ => rfl, hK _ ?_⟩
              clear hK K
              refine wpQuiet_nil ?_
              intro w4 hw4
              have HM4 : Hid (Mods [] w2 w4) := Lib.hid (Mods.trans HMM.out hw4 (by simp))
              clear hw4
              go_wp2_with fail
              exact ⟨⟨m + 1, by omega, by omega, rfl, HM4.out⟩, by simp only [intOf]; omega⟩
        · obtain ⟨wo, rfl⟩ : ∃ wo : World, wo = wr := ⟨_, rfl⟩
          have O3 := Lib.hid (ownsRow_mods O2.out HMM.out (by simp))
          have M3 := Lib.hid (M2.out.trans HMM.out (by simp))
          have T3 := Lib.hid (tabs_mods M3.out HT.out)
          go_wp2_with fail
          rw [show ((l.length : Int) + 1) = ((l.length + 1 : Nat) : Int) by omega]
          refine (pick_any at_ (l.length + 1) _ a1 a2 (by omega) (by omega)).mono ?_; rintro e w5 ⟨rfl, rfl⟩
          have hj : pickN at_ (l.length + 1) < l.length + 1 := by unfold pickN; exact Nat.mod_lt _ (by omega)
          generalize pickN at_ (l.length + 1) = j at *
          have hjE : j < E.length := by have := HEL.out; omega
          have hc0 : wo.cell? ⟨gE, j, none⟩ = some (.int .i64 (E[j] : Int)) := by
            have := O3.out.cells rfl j (intV E[j]) (by simp [hjE])
            simpa [Addr.add_lit, intV] using this
          have hxs := HXS.out j E[j] (by simp [hjE])
          have HBAD := Lib.hid (HSP.out j (pickN how 12) E[j] (by omega) (by simp [hjE]))
          generalize E[j] = x at *
          go_wp2_with fail
          have HSPL := Lib.hid (fun w' => spoil_any how w' b1 b2)
          have hps : (⟨(Tx.spoilL (pickN how 12)).toArray⟩ : ByteArray).size ≤ 4 := by
            have : (Tx.spoilL (pickN how 12)).length ≤ 4 := by unfold Tx.spoilL; split <;> simp
            simpa [ByteArray.size] using this
          generalize (⟨(Tx.spoilL (pickN how 12)).toArray⟩ : ByteArray) = Pp at *
          have hs1 : (S.extract 0 x).size ≤ 8000 := by simp; omega
          have hs2 : (S.extract x S.size).size ≤ 8000 := by simp; omega
          have HGB := Lib.hid (fun w' hT' => good_is (S.extract 0 x ++ Pp ++ S.extract x S.size) false w' (by unfold maxLen; rw [ByteArray.size_append, ByteArray.size_append]; omega) hT' HBAD.out)
          have hq1 : ¬ 9223372036854775807 < x + Pp.size := by omega
          have hq2 : ¬ 9223372036854775807 < x + Pp.size + (S.size - x) := by omega
          refine wp_region_quiet (C := InC wo) (by kernel_rfl) (by kernel_rfl) (InC.drew wo) ?_
          dsimp only [List.toList_toArray]
          refine wpQuiet_step (fun K hK => ?_)
          go_simp
          refine ⟨_, fun _ _ => rfl, hK _ ?_⟩
          clear hK K
          refine wpQuiet_step (fun K hK => ?_)
          go_simp
          refine ⟨_, fun _ _ => rfl, hK _ ?_⟩
          clear hK K
          refine wpQuiet_step (fun K hK => ?_)
          go_simp
          refine ⟨_, fun _ _ => rfl, hK _ ?_⟩
          clear hK K
          refine wpQuiet_step (fun K hK => ?_)
          go_simp
          refine ⟨_, fun _ _ => rfl, hK _ ?_⟩
          clear hK K
          refine wpQuiet_step (fun K hK => ?_)
          go_simp
          refine ⟨_, fun w' hw' => (HSPL.out w').mono fun _ _ hh => ⟨hh.1, hh.2 ▸ hw'⟩, hK _ ?_⟩
          clear hK K
          refine wpQuiet_step (fun K hK => ?_)
          go_simp
          refine ⟨_, fun _ _ => rfl, hK _ ?_⟩
          clear hK K
          refine wpQuiet_step (fun K hK => ?_)
          go_simp
          refine ⟨_, fun _ _ => rfl, hK _ ?_⟩
          clear hK K
          refine wpQuiet_step (fun K hK => ?_)
          go_simp
          refine ⟨_, fun _ _ => rfl, hK _ ?_⟩
          clear hK K
          refine wpQuiet_step (fun K hK => ?_)
          go_simp
          refine ⟨_, fun _ _ => rfl, hK _ ?_⟩
          clear hK K
          refine wpQuiet_step (fun K hK => ?_)
          go_simp
          refine ⟨_, fun _ _ => rfl, hK _ ?_⟩
          clear hK K
          refine wpQuiet_step (fun K hK => ?_)
          go_simp
          refine ⟨_, fun w' hw' => (HGB.out w' (tabs_mods hw' T3.out)).mono fun _ _ hh => ⟨hh.1, Mods.trans hw' (below_mods hh.2) (by simp)⟩, hK _ ?_⟩
          clear hK K
          refine wpQuiet_step (fun K hK => ?_)
          go_simp
          refine ⟨_, fun _ _ => rfl, hK _ ?_⟩
          clear hK K
          refine wpQuiet_step (fun K hK => ?_)
          go_simp
          refine ⟨_, fun _ _ => rfl, hK _ ?_⟩
          clear hK K
          refine wpQuiet_nil ?_
          intro w4 hw4
          have M4 := Lib.hid (Mods.trans M3.out hw4 (by simp))
          clear hw4
          go_wp2_with fail
          go_ret
          exact ⟨rfl, M4.out⟩
theorem made_any {w : World} (hT : Lib.Utf8Tabs 0 1 w) {va : Value} (ns : List Int) (hv : Rd w va (ns.map intZ)) (hz : ∀ z ∈ ns, -9223372036854775808 ≤ z ∧ z ≤ 9223372036854775807) (at_ how : Int)
    (a1 : -9223372036854775808 ≤ at_) (a2 : at_ ≤ 9223372036854775807) (b1 : -9223372036854775808 ≤ how) (b2 : how ≤ 9223372036854775807) :
    Calls Tryd.prog 4 #[va, .int .i64 at_, .int .i64 how] w fun e w' => e = .returned (.bool true) ∧ Mods [] w w' := by
  by_cases h : ns.length ≤ 2000
  · exact made_short hT ns hv h hz at_ how a1 a2 b1 b2
  · exact made_long hT ns hv (by omega) hz at_ how a1 a2 b1 b2
end Go.Proofs.YtedddekkbgaolaaDoor
