/- A map of counts that a call makes: what it holds, asked and written. | cmp.Compare and slices.Compare of strings; dump.order. | dump.order. -/
import Derived.Test.YtmcekhgmmocajaaGreatDoorEf
import Derived.Maps.Own
import Derived.Maps.OwnOps
import Derived.Maps.OwnSet
namespace Go.Proofs.YtmcekhgmmocajaaGreatDoor
open Go.RowKit Me

theorem law9 : Go.Maps.Keyed Tryz.prog 9 := Go.Maps.string_keyed Tryz.underlying9
theorem zero3 (w : World) : (zeroValue 3).run Tryz.prog w = .ok (.int .i64 0) w := by kernel_rfl
/-- Block b is a map that tells of each text its count. -/
def Cnt (w : World) (b n : Nat) (cnt : ByteArray → Int) : Prop :=
  ∃ D : DataW Unit, w.ownsMap Tryz.prog 9 (plainElem Tryz.prog 3) b n D ∧ ∀ s : ByteArray, s.size ≤ maxLen → D.atKey (.string s.data.toList) (.lit (.int .i64 0)) = .lit (.int .i64 (cnt s))
theorem Cnt.start (w : World) : Cnt (w.alloc (.map #[] 0)) w.heap.size 0 (fun _ => 0) :=
  ⟨_, World.ownsMap_made _ _ _ _, fun _ _ => rfl⟩
theorem Cnt.mods {w w' : World} {b n : Nat} {cnt : ByteArray → Int} {F : List Nat} (h : Cnt w b n cnt) (hm : Mods F w w') (hn : b ∉ F) : Cnt w' b n cnt := by
  obtain ⟨D, ⟨es, clock, hb, F', h1, h2⟩, h3⟩ := h
  exact ⟨D, ⟨es, clock, hm.heap hb hn, F', h1, h2⟩, h3⟩
theorem key9 (s : ByteArray) (hs : s.size ≤ maxLen) : keyOf Tryz.prog 9 (.string s) = some (.string s.data.toList) := Go.WideMaps.keyOf_string_mk Tryz.underlying9 hs
theorem Cnt.look {w : World} {b n : Nat} {cnt : ByteArray → Int} (h : Cnt w b n cnt) (s : ByteArray) (hs : s.size ≤ maxLen) :
    (Instr.lookup 83 (.map (some b)) (.string s) false).run Tryz.prog w = .ok (.int .i64 (cnt s)) w := by
  obtain ⟨D, h1, h2⟩ := h
  obtain ⟨c, hrun, hat, _⟩ := h1.lookup_int law9 Tryz.underlying83 Tryz.underlying3 (zero3 w) (key9 s hs)
  rw [h2 s hs] at hat
  simp only [DataW.lit.injEq, Lit.int.injEq, true_and] at hat
  rw [hat]
  exact hrun
theorem Cnt.update {w : World} {b n : Nat} {cnt : ByteArray → Int} (h : Cnt w b n cnt) (hn : n < maxLen) (s : ByteArray) (hs : s.size ≤ maxLen) (v : Int) (hv : (Lit.int .i64 v).wf = true) :
    ∃ w', (Instr.mapUpdate 83 (.map (some b)) (.string s) (.int .i64 v)).run Tryz.prog w = .ok () w' ∧ Cnt w' b (n + 1) (fun t => if t.data.toList = s.data.toList then v else cnt t) ∧ Mods [b] w w' := by
  obtain ⟨D, h1, h2⟩ := h
  obtain ⟨w', hrun, h3, h4⟩ := h1.update law9 Tryz.underlying83 hn (key9 s hs) (plainElem_int Tryz.underlying3 hv)
  refine ⟨w', hrun, ⟨_, h3, fun t ht => ?_⟩, (Mods.refl [b] w).grown h4 (fun x hx => Or.inl (by cases hx; simp))⟩
  show _ = DataW.lit (.int .i64 (if t.data.toList = s.data.toList then v else cnt t))
  by_cases e : t.data.toList = s.data.toList
  · rw [if_pos e, e]
    exact Go.Maps.atKey_put_same (k := .string s.data.toList) h1.isMap (show WideAt.IsKeyLit (.string s.data.toList) from trivial) _ _
  · rw [if_neg e, Go.Maps.atKey_put_other (by simpa using e)]
    exact h2 t ht
end Go.Proofs.YtmcekhgmmocajaaGreatDoor
namespace Go.Proofs.YtmcekhgmmocajaaGreatDoor
open Go.RowKit Me

def lessB (a b : ByteArray) : Bool := Op.bytesLess a.toList b.toList
def cmpB (a b : ByteArray) : Int := if lessB a b then -1 else if a.toList == b.toList then 0 else 1
def cmpL : List ByteArray → List ByteArray → Int
  | [], [] => 0
  | [], _ :: _ => -1
  | _ :: _, [] => 1
  | a :: l, b :: m => if cmpB a b = 0 then cmpL l m else cmpB a b
theorem isnan_any (s : ByteArray) (w : World) : Calls Tryz.prog 135 #[.string s] w fun x w' => x = .returned (.bool false) ∧ w' = w := by
  go_enter Tryz.func135, Tryz.ntmps135
  go_wp2_with fail
  go_ret
  exact ⟨rfl, rfl⟩
theorem compare_any (a b : ByteArray) (w : World) : Calls Tryz.prog 114 #[.string a, .string b] w fun x w' => x = .returned (.int .i64 (cmpB a b)) ∧ w' = w := by
  have H := Lib.hid (fun s w => isnan_any s w)
  have HC := Lib.hid (show cmpB a b = if Op.bytesLess a.toList b.toList then -1 else if a.toList == b.toList then 0 else 1 from rfl)
  generalize cmpB a b = q at *
  go_enter Tryz.func114, Tryz.ntmps114
  go_wp2_with fail
  refine (H.out _ _).mono ?_; rintro x w1 ⟨rfl, rfl⟩
  go_wp2_with fail
  refine (H.out _ _).mono ?_; rintro x w1 ⟨rfl, rfl⟩
  go_wp2_with fail
  all_goals go_ret
  all_goals (have hq := HC.out; clear HC H)
  all_goals (refine ⟨?_, rfl⟩; rw [hq])
  all_goals simp_all
theorem cmpL_step (L M : List ByteArray) (k : Nat) (p q : ByteArray) (hp : L[k]? = some p) (hq : M[k]? = some q) : cmpL (L.drop k) (M.drop k) = if cmpB p q = 0 then cmpL (L.drop (k + 1)) (M.drop (k + 1)) else cmpB p q := by
  obtain ⟨h1, rfl⟩ := List.getElem?_eq_some_iff.1 hp
  obtain ⟨h2, rfl⟩ := List.getElem?_eq_some_iff.1 hq
  rw [List.drop_eq_getElem_cons h1, List.drop_eq_getElem_cons h2]
  rfl
theorem cmpL_short (L M : List ByteArray) (k : Nat) (h1 : k < L.length) (h2 : M.length ≤ k) : cmpL (L.drop k) (M.drop k) = 1 := by
  rw [List.drop_eq_getElem_cons h1, List.drop_eq_nil_of_le h2]
  rfl
theorem cmpL_less (M : List ByteArray) (L : List ByteArray) (k : Nat) (h1 : L.length ≤ k) (h2 : k < M.length) : cmpL (L.drop k) (M.drop k) = -1 := by
  rw [List.drop_eq_getElem_cons h2, List.drop_eq_nil_of_le h1]
  rfl
theorem cmpL_same (M : List ByteArray) (L : List ByteArray) (k : Nat) (h1 : L.length ≤ k) (h2 : M.length ≤ k) : cmpL (L.drop k) (M.drop k) = 0 := by
  rw [List.drop_eq_nil_of_le h2, List.drop_eq_nil_of_le h1]
  rfl
def RelCm (w : World) (L M : List ByteArray) (i : Value) (wr : World) : Prop := ∃ k : Nat, k ≤ L.length ∧ k ≤ M.length ∧ i = .int .i64 k ∧ cmpL L M = cmpL (L.drop k) (M.drop k) ∧ w = wr
set_option maxRecDepth 100000 in
set_option maxHeartbeats 1000000 in
theorem scompare_any {w : World} (L M : List ByteArray) {v u : Value} (h : Rd w v (L.map Value.string)) (h' : Rd w u (M.map Value.string)) :
    Calls Tryz.prog 91 #[v, u] w fun x w' => x = .returned (.int .i64 (cmpL L M)) ∧ w' = w := by
  obtain ⟨A, c, rfl, a1, a2, a3⟩ := h
  obtain ⟨B, d, rfl, b1, b2, b3⟩ := h'
  simp only [List.length_map] at *
  have H := Lib.hid (fun a b w => compare_any a b w)
  have H3 := Lib.hid a3
  have K3 := Lib.hid b3
  have hLm : L.length ≤ 9223372036854775807 := by unfold maxLen at a2; omega
  clear a1 a2 a3 b1 b2 b3
  go_enter Tryz.func91, Tryz.ntmps91
  go_wp2_with fail
  go_loopw [11] (fun i wr => RelCm w L M i wr) (fun i _ => L.length - (intOf i).toNat)
  case atStart => exact ⟨0, by omega, by omega, rfl, rfl, rfl⟩
  case round =>
    obtain ⟨k, hk, hk2, rfl, he, rfl⟩ := hrel
    have HE := Lib.hid he
    clear he
    rcases Nat.lt_or_ge k L.length with hlt | hge
    · obtain ⟨p, hp⟩ : ∃ p, L[k]? = some p := ⟨_, List.getElem?_eq_getElem hlt⟩
      obtain ⟨g, off, rfl, c1⟩ := H3.out k (.string p) (by rw [List.getElem?_map, hp]; rfl)
      rcases Nat.lt_or_ge k M.length with hlt2 | hge2
      · obtain ⟨q, hq⟩ : ∃ q, M[k]? = some q := ⟨_, List.getElem?_eq_getElem hlt2⟩
        obtain ⟨g2, off2, rfl, c2⟩ := K3.out k (.string q) (by rw [List.getElem?_map, hq]; rfl)
        have HS := Lib.hid (HE.out.trans (cmpL_step L M k p q hp hq))
        clear hp hq
        go_wp2_with fail
        refine (H.out _ _ _).mono ?_; rintro x w1 ⟨rfl, rfl⟩
        by_cases h0 : cmpB p q = 0
        · rw [if_pos h0] at HS
          rw [h0]
          go_wp2_with fail
          exact ⟨⟨k + 1, by omega, by omega, rfl, HS.out, rfl⟩, by simp only [intOf]; omega⟩
        · rw [if_neg h0] at HS
          have hne : (cmpB p q != 0) = true := bne_iff_ne.2 h0
          generalize cmpB p q = z at *
          go_wp2_with fail
          go_ret
          exact ⟨by rw [HS.out]; rfl, rfl⟩
      · have HS := Lib.hid (HE.out.trans (cmpL_short L M k hlt hge2))
        go_wp2_with fail
        go_ret
        exact ⟨by rw [HS.out]; rfl, rfl⟩
    · obtain rfl : k = L.length := by omega
      by_cases hl : L.length < M.length
      · have HS := Lib.hid (HE.out.trans (cmpL_less M L _ (Nat.le_refl _) hl))
        go_wp2_with fail
        go_ret
        exact ⟨by rw [HS.out]; rfl, rfl⟩
      · have HS := Lib.hid (HE.out.trans (cmpL_same M L _ (Nat.le_refl _) (by omega)))
        go_wp2_with fail
        go_ret
        exact ⟨by rw [HS.out]; rfl, rfl⟩
end Go.Proofs.YtmcekhgmmocajaaGreatDoor
namespace Go.Proofs.YtmcekhgmmocajaaGreatDoor
open Go.RowKit Me

set_option maxHeartbeats 1000000 in
set_option maxRecDepth 100000 in
theorem order_any {w : World} (a b : ByteArray) (ha : a.size < 4294967281) (hb : b.size < 4294967281) (hT : Tabs w) :
    Calls Tryz.prog 50 #[.string a, .string b] w fun x w' => x = .returned (.int .i64 (cmpL (partsP a) (partsP b))) ∧ Mods [] w w' := by
  have H1 := Lib.hid (parts_any a w ha hT)
  have H2 := Lib.hid (fun w' (hw : Mods [] w w') => parts_any b w' hb (hT.keep (hw.toBelow (by simp))))
  generalize partsP a = L at *
  generalize partsP b = M at *
  go_enter Tryz.func50, Tryz.ntmps50
  go_wp2_with fail
  refine H1.out.mono ?_; rintro x w1 ⟨v, rfl, hr, hm⟩
  have HR := Lib.hid hr
  have HM := Lib.hid hm
  clear hr hm
  obtain ⟨A, c, rfl, -⟩ := HR.out
  go_wp2_with fail
  refine (H2.out _ HM.out).mono ?_; rintro x w2 ⟨v, rfl, hr, hm⟩
  have HC := Lib.hid (scompare_any L M (HR.out.mods hm (by simp)) hr)
  have HM2 := Lib.hid (HM.out.trans hm (by simp))
  obtain ⟨B, d, rfl, -⟩ := hr
  simp only [List.length_map] at HC
  clear hm
  go_wp2_with fail
  refine HC.out.mono ?_; rintro x w3 ⟨rfl, rfl⟩
  go_wp2_with fail
  go_ret
  exact ⟨rfl, HM2.out⟩
end Go.Proofs.YtmcekhgmmocajaaGreatDoor
