/- The walk of the law WireJoins: it returns true for every input; nothing that was there before the call has turned. -/
import Derived.Test.YtedddekkbgaolaaDoorGood
namespace Go.Proofs.YtedddekkbgaolaaDoor
open Go.RowKit

theorem list_append (a b : ByteArray) : (a ++ b).data.toList = a.data.toList ++ b.data.toList := by simp
theorem join_ff (a b : ByteArray) : Tx.good (a ++ ⟨#[255]⟩ ++ b).data.toList = false := by
  rw [list_append, list_append]
  exact Tx.not_good_ff _ _
theorem join_good (a b : ByteArray) (h : Tx.good a.data.toList = true) : Tx.good (a ++ b).data.toList = Tx.good b.data.toList := by
  rw [list_append]
  exact Tx.good_append _ _ h
theorem front_list (a : ByteArray) (k : Nat) : (a.extract 0 k).data.toList = a.data.toList.take k := by
  rw [Lib.extract_data]; simp

/-- What wire.Cut hands back, where it cuts a text. -/
structure IsCut (a : ByteArray) (m : Int) (c : ByteArray) : Prop where
  good : Tx.good c.data.toList = true
  le : c.size ≤ a.size
  front : a.extract 0 c.size = c
  most : 0 ≤ m → (c.size : Int) ≤ m
  neg : m < 0 → c.size = 0
  far : m < (a.size : Int) → m - 3 ≤ (c.size : Int)
theorem cut_of (a : ByteArray) (m : Int) (h : Tx.good a.data.toList = true) : IsCut a m (a.extract 0 (Tx.cutL a.data.toList m)) := by
  have hl := Tx.cutL_le a.data.toList m
  rw [size_list] at hl
  have hz : (a.extract 0 (Tx.cutL a.data.toList m)).size = Tx.cutL a.data.toList m := by simp; omega
  refine ⟨?_, by omega, by rw [hz], ?_, ?_, ?_⟩
  · rw [front_list]; exact Tx.cut_good _ h m
  · intro hm; rw [hz]; exact Tx.cutL_most _ _ hm
  · intro hm; rw [hz]; exact Tx.cutL_neg _ _ hm
  · intro hm; rw [hz]; exact Tx.cutL_far _ _ (by rw [size_list]; exact hm)
theorem cut_whole (a : ByteArray) (w : World) (hs : a.size ≤ maxLen) (_hs2 : (a.size : Int) ≤ 9223372036854775807) :
    Calls Tryd.prog 17 #[.string a, .int .i64 a.size] w fun e w' => e = .returned (.string a) ∧ Below w.heap.size w w' := by
  have := cut_any a a.size w hs (by omega) (by omega)
  rw [Tx.cutL_all _ _ (by rw [size_list]; exact Int.le_refl _), size_list] at this
  have he : a.extract 0 a.size = a := by simp
  rwa [he] at this
theorem cut_is (a : ByteArray) (m : Int) (w : World) (hs : a.size ≤ maxLen) (h1 : -9223372036854775808 ≤ m) (h2 : m ≤ 9223372036854775807) (h : Tx.good a.data.toList = true) :
    Calls Tryd.prog 17 #[.string a, .int .i64 m] w fun e w' => ∃ c, e = .returned (.string c) ∧ Below w.heap.size w w' ∧ IsCut a m c :=
  (cut_any a m w hs h1 h2).mono fun _ _ ⟨he, hb⟩ => ⟨_, he, hb, cut_of a m h⟩

set_option maxHeartbeats 1000000 in
theorem joins_some (a b : ByteArray) (m : Int) (w : World) (ha : a.size ≤ 33554432) (hb : b.size ≤ 33554432) (h1 : -9223372036854775808 ≤ m) (h2 : m ≤ 9223372036854775807) (hT : Lib.Utf8Tabs 0 1 w) :
    Calls Tryd.prog 3 #[.string a, .string b, .int .i64 m] w fun e w' => e = .returned (.bool true) ∧ Below w.heap.size w w' := by
  have hml : a.size ≤ maxLen ∧ b.size ≤ maxLen ∧ (a ++ ⟨#[255]⟩ ++ b).size ≤ maxLen ∧ (a ++ b).size ≤ maxLen := by
    unfold maxLen
    have h3 : (⟨#[255]⟩ : ByteArray).size = 1 := rfl
    simp only [ByteArray.size_append, h3]
    omega
  have HM := Lib.hid hml
  clear hml
  go_enter Tryd.func3, Tryd.ntmps3
  go_wp2_with fail
  refine (good_is ⟨#[]⟩ true _ (by decide) hT (by decide)).mono ?_; rintro e w1 ⟨rfl, hb1⟩
  have hT1 := tabs_keep hb1 hT
  go_wp2_with fail
  refine (good_is ⟨#[97, 195, 169]⟩ true _ (by decide) hT1 (by decide)).mono ?_; rintro e w2 ⟨rfl, hb2⟩
  have hT2 := tabs_keep hb2 hT1
  replace hb2 := hb1.trans (hb2.mono hb1.size)
  clear hb1 hT1
  go_wp2_with fail
  refine (good_is ⟨#[195]⟩ false _ (by decide) hT2 (by decide)).mono ?_; rintro e w3 ⟨rfl, hb3⟩
  have hT3 := tabs_keep hb3 hT2
  replace hb3 := hb2.trans (hb3.mono hb2.size)
  clear hb2 hT2
  go_wp2_with fail
  refine (good_is ⟨#[0]⟩ false _ (by decide) hT3 (by decide)).mono ?_; rintro e w4 ⟨rfl, hb4⟩
  have hT4 := tabs_keep hb4 hT3
  replace hb4 := hb3.trans (hb4.mono hb3.size)
  clear hb3 hT3
  go_wp2_with fail
  refine (good_is _ false _ HM.out.2.2.1 hT4 (join_ff a b)).mono ?_; rintro e w5 ⟨rfl, hb5⟩
  have hT5 := tabs_keep hb5 hT4
  replace hb5 := hb4.trans (hb5.mono hb4.size)
  clear hb4 hT4
  go_wp2_with fail
  by_cases hga : Tx.good a.data.toList = true
  · refine (good_is a true _ HM.out.1 hT5 hga).mono ?_; rintro e w6 ⟨rfl, hb6⟩
    have hT6 := tabs_keep hb6 hT5
    replace hb6 := hb5.trans (hb6.mono hb5.size)
    clear hb5 hT5
    have HG := Lib.hid hga
    clear hga
    go_wp2_with fail
    refine (cut_is a m _ HM.out.1 h1 h2 HG.out).mono ?_; rintro e w7 ⟨c, rfl, hb7, hc⟩
    have hT7 := tabs_keep hb7 hT6
    replace hb7 := hb6.trans (hb7.mono hb6.size)
    clear hb6 hT6
    obtain ⟨hcg, hcle, hcf, hcm, hcn, hcfar⟩ := hc
    have HCG := Lib.hid hcg
    have HCM := Lib.hid hcm
    have HCN := Lib.hid hcn
    have HCF := Lib.hid hcfar
    clear hcg hcm hcn hcfar
    go_wp2_with fail
    refine (good_is c true _ (by have := HM.out.1; omega) hT7 HCG.out).mono ?_; rintro e w8 ⟨rfl, hb8⟩
    have hT8 := tabs_keep hb8 hT7
    replace hb8 := hb7.trans (hb8.mono hb7.size)
    clear hb7 hT7
    go_wp2_with fail
    refine (cut_whole a _ HM.out.1 (by omega)).mono ?_; rintro e w9 ⟨rfl, hb9⟩
    have hT9 := tabs_keep hb9 hT8
    replace hb9 := hb8.trans (hb9.mono hb8.size)
    clear hb8 hT8
    rcases (show m < 0 ∨ (0 ≤ m ∧ m < 3) ∨ (3 ≤ m ∧ (a.size : Int) ≤ m) ∨ (3 ≤ m ∧ m < (a.size : Int)) by omega) with hm | ⟨hm, hm'⟩ | ⟨hm, hm'⟩ | ⟨hm, hm'⟩
    · have hcz := HCN.out hm
      obtain rfl : c = ⟨#[]⟩ := ByteArray.ext (Array.eq_empty_of_size_eq_zero hcz)
      clear hcz hcf
      go_wp2_with fail
      by_cases hgb : Tx.good b.data.toList = true
      · refine (good_is b true _ HM.out.2.1 hT9 hgb).mono ?_; rintro e w10 ⟨rfl, hb10⟩
        have hT10 := tabs_keep hb10 hT9
        replace hb10 := hb9.trans (hb10.mono hb9.size)
        have HJ := Lib.hid ((join_good a b HG.out).trans hgb)
        clear hb9 hT9 hgb
        go_wp2_with fail
        refine (good_is (a ++ b) true _ HM.out.2.2.2 hT10 HJ.out).mono ?_; rintro e w11 ⟨rfl, hb11⟩
        replace hb11 := hb10.trans (hb11.mono hb10.size)
        go_wp2_with fail
        go_ret
        exact ⟨rfl, hb11⟩
      · have hgb' : Tx.good b.data.toList = false := by simpa using hgb
        refine (good_is b false _ HM.out.2.1 hT9 hgb').mono ?_; rintro e w10 ⟨rfl, hb10⟩
        have hT10 := tabs_keep hb10 hT9
        replace hb10 := hb9.trans (hb10.mono hb9.size)
        have HJ := Lib.hid ((join_good a b HG.out).trans hgb')
        clear hb9 hT9 hgb hgb'
        go_wp2_with fail
        refine (good_is (a ++ b) false _ HM.out.2.2.2 hT10 HJ.out).mono ?_; rintro e w11 ⟨rfl, hb11⟩
        replace hb11 := hb10.trans (hb11.mono hb10.size)
        go_wp2_with fail
        go_ret
        exact ⟨rfl, hb11⟩
    · have hx := HCM.out (by omega)
      go_wp2_with fail
      by_cases hgb : Tx.good b.data.toList = true
      · refine (good_is b true _ HM.out.2.1 hT9 hgb).mono ?_; rintro e w10 ⟨rfl, hb10⟩
        have hT10 := tabs_keep hb10 hT9
        replace hb10 := hb9.trans (hb10.mono hb9.size)
        have HJ := Lib.hid ((join_good a b HG.out).trans hgb)
        clear hb9 hT9 hgb
        go_wp2_with fail
        refine (good_is (a ++ b) true _ HM.out.2.2.2 hT10 HJ.out).mono ?_; rintro e w11 ⟨rfl, hb11⟩
        replace hb11 := hb10.trans (hb11.mono hb10.size)
        go_wp2_with fail
        go_ret
        exact ⟨rfl, hb11⟩
      · have hgb' : Tx.good b.data.toList = false := by simpa using hgb
        refine (good_is b false _ HM.out.2.1 hT9 hgb').mono ?_; rintro e w10 ⟨rfl, hb10⟩
        have hT10 := tabs_keep hb10 hT9
        replace hb10 := hb9.trans (hb10.mono hb9.size)
        have HJ := Lib.hid ((join_good a b HG.out).trans hgb')
        clear hb9 hT9 hgb hgb'
        go_wp2_with fail
        refine (good_is (a ++ b) false _ HM.out.2.2.2 hT10 HJ.out).mono ?_; rintro e w11 ⟨rfl, hb11⟩
        replace hb11 := hb10.trans (hb11.mono hb10.size)
        go_wp2_with fail
        go_ret
        exact ⟨rfl, hb11⟩
    · have hx := HCM.out (by omega)
      go_wp2_with fail
      by_cases hgb : Tx.good b.data.toList = true
      · refine (good_is b true _ HM.out.2.1 hT9 hgb).mono ?_; rintro e w10 ⟨rfl, hb10⟩
        have hT10 := tabs_keep hb10 hT9
        replace hb10 := hb9.trans (hb10.mono hb9.size)
        have HJ := Lib.hid ((join_good a b HG.out).trans hgb)
        clear hb9 hT9 hgb
        go_wp2_with fail
        refine (good_is (a ++ b) true _ HM.out.2.2.2 hT10 HJ.out).mono ?_; rintro e w11 ⟨rfl, hb11⟩
        replace hb11 := hb10.trans (hb11.mono hb10.size)
        go_wp2_with fail
        go_ret
        exact ⟨rfl, hb11⟩
      · have hgb' : Tx.good b.data.toList = false := by simpa using hgb
        refine (good_is b false _ HM.out.2.1 hT9 hgb').mono ?_; rintro e w10 ⟨rfl, hb10⟩
        have hT10 := tabs_keep hb10 hT9
        replace hb10 := hb9.trans (hb10.mono hb9.size)
        have HJ := Lib.hid ((join_good a b HG.out).trans hgb')
        clear hb9 hT9 hgb hgb'
        go_wp2_with fail
        refine (good_is (a ++ b) false _ HM.out.2.2.2 hT10 HJ.out).mono ?_; rintro e w11 ⟨rfl, hb11⟩
        replace hb11 := hb10.trans (hb11.mono hb10.size)
        go_wp2_with fail
        go_ret
        exact ⟨rfl, hb11⟩
    · have hx := HCM.out (by omega)
      have hy := HCF.out (by omega)
      go_wp2_with fail
      by_cases hgb : Tx.good b.data.toList = true
      · refine (good_is b true _ HM.out.2.1 hT9 hgb).mono ?_; rintro e w10 ⟨rfl, hb10⟩
        have hT10 := tabs_keep hb10 hT9
        replace hb10 := hb9.trans (hb10.mono hb9.size)
        have HJ := Lib.hid ((join_good a b HG.out).trans hgb)
        clear hb9 hT9 hgb
        go_wp2_with fail
        refine (good_is (a ++ b) true _ HM.out.2.2.2 hT10 HJ.out).mono ?_; rintro e w11 ⟨rfl, hb11⟩
        replace hb11 := hb10.trans (hb11.mono hb10.size)
        go_wp2_with fail
        go_ret
        exact ⟨rfl, hb11⟩
      · have hgb' : Tx.good b.data.toList = false := by simpa using hgb
        refine (good_is b false _ HM.out.2.1 hT9 hgb').mono ?_; rintro e w10 ⟨rfl, hb10⟩
        have hT10 := tabs_keep hb10 hT9
        replace hb10 := hb9.trans (hb10.mono hb9.size)
        have HJ := Lib.hid ((join_good a b HG.out).trans hgb')
        clear hb9 hT9 hgb hgb'
        go_wp2_with fail
        refine (good_is (a ++ b) false _ HM.out.2.2.2 hT10 HJ.out).mono ?_; rintro e w11 ⟨rfl, hb11⟩
        replace hb11 := hb10.trans (hb11.mono hb10.size)
        go_wp2_with fail
        go_ret
        exact ⟨rfl, hb11⟩
  · refine (good_is a false _ HM.out.1 hT5 (by simpa using hga)).mono ?_; rintro e w6 ⟨rfl, hb6⟩
    replace hb6 := hb5.trans (hb6.mono hb5.size)
    clear hga
    go_wp2_with fail
    go_ret
    exact ⟨rfl, hb6⟩

theorem joins_any (a b : ByteArray) (m : Int) (w : World) (ha : a.size ≤ maxLen) (hb : b.size ≤ maxLen) (h1 : -9223372036854775808 ≤ m) (h2 : m ≤ 9223372036854775807) (hT : Lib.Utf8Tabs 0 1 w) :
    Calls Tryd.prog 3 #[.string a, .string b, .int .i64 m] w fun e w' => e = .returned (.bool true) ∧ Below w.heap.size w w' := by
  by_cases h3 : a.size ≤ 33554432
  · by_cases h4 : b.size ≤ 33554432
    · exact joins_some a b m w h3 h4 h1 h2 hT
    · unfold maxLen at ha hb
      go_enter Tryd.func3, Tryd.ntmps3
      go_wp2_with fail
      go_ret
      exact ⟨rfl, Below.refl _ _⟩
  · unfold maxLen at ha hb
    go_enter Tryd.func3, Tryd.ntmps3
    go_wp2_with fail
    go_ret
    exact ⟨rfl, Below.refl _ _⟩
end Go.Proofs.YtedddekkbgaolaaDoor
