/- A map of counts that a call makes: what it holds, asked and written. | cmp.Compare and slices.Compare of strings; dump.order. | dump.order. | dump.ordered, walked. -/
import Derived.Test.YtmcekhgmmocajaaGreatDoorEf
import Derived.Maps.Own
import Derived.Maps.OwnOps
import Derived.Maps.OwnSet
import Derived.Laws.Rows
namespace Go.Proofs.YtmcekhgmmocajaaGreatDoor
open Go.RowKit Me

theorem law9 : Go.Maps.Keyed Tryz.prog 9 := Go.Maps.string_keyed Tryz.underlying9
theorem zero3 (w : World) : (zeroValue 3).run Tryz.prog w = .ok (.int .i64 0) w := by kernel_rfl
/-- Block b is a map that tells of each text its count. -/
def Cnt (w : World) (b n : Nat) (cnt : ByteArray → Int) : Prop :=
  ∃ D : DataW Unit, w.ownsMap Tryz.prog 9 (plainElem Tryz.prog 3) b n D ∧ ∀ s : ByteArray, s.size ≤ maxLen → D.atKey (.string s.data.toList) (.lit (.int .i64 0)) = .lit (.int .i64 (cnt s))
theorem Cnt.start (w : World) : Cnt (w.alloc (.map #[] 0)) w.heap.size 0 (fun _ => 0) :=
  ⟨_, World.ownsMap_made _ _ _ _, fun _ _ => rfl⟩
theorem Cnt.mods {w w' : World} {b n : Nat} {cnt : ByteArray → Int} {F : List Nat} (h : Cnt w b n cnt) (hm : Mods F w w') (hn : b ∉ F) : Cnt w' b n cnt := by
  obtain ⟨D, ⟨es, clock, hb, F', h1, h2⟩, h3⟩ := h
  exact ⟨D, ⟨es, clock, hm.heap hb hn, F', h1, h2⟩, h3⟩
theorem key9 (s : ByteArray) (hs : s.size ≤ maxLen) : keyOf Tryz.prog 9 (.string s) = some (.string s.data.toList) := Go.WideMaps.keyOf_string_mk Tryz.underlying9 hs
theorem Cnt.look {w : World} {b n : Nat} {cnt : ByteArray → Int} (h : Cnt w b n cnt) (s : ByteArray) (hs : s.size ≤ maxLen) :
    (Instr.lookup 83 (.map (some b)) (.string s) false).run Tryz.prog w = .ok (.int .i64 (cnt s)) w := by
  obtain ⟨D, h1, h2⟩ := h
  obtain ⟨c, hrun, hat, _⟩ := h1.lookup_int law9 Tryz.underlying83 Tryz.underlying3 (zero3 w) (key9 s hs)
  rw [h2 s hs] at hat
  simp only [DataW.lit.injEq, Lit.int.injEq, true_and] at hat
  rw [hat]
  exact hrun
theorem Cnt.update {w : World} {b n : Nat} {cnt : ByteArray → Int} (h : Cnt w b n cnt) (hn : n < maxLen) (s : ByteArray) (hs : s.size ≤ maxLen) (v : Int) (hv : (Lit.int .i64 v).wf = true) :
    ∃ w', (Instr.mapUpdate 83 (.map (some b)) (.string s) (.int .i64 v)).run Tryz.prog w = .ok () w' ∧ Cnt w' b (n + 1) (fun t => if t.data.toList = s.data.toList then v else cnt t) ∧ Mods [b] w w' := by
  obtain ⟨D, h1, h2⟩ := h
  obtain ⟨w', hrun, h3, h4⟩ := h1.update law9 Tryz.underlying83 hn (key9 s hs) (plainElem_int Tryz.underlying3 hv)
  refine ⟨w', hrun, ⟨_, h3, fun t ht => ?_⟩, (Mods.refl [b] w).grown h4 (fun x hx => Or.inl (by cases hx; simp))⟩
  show _ = DataW.lit (.int .i64 (if t.data.toList = s.data.toList then v else cnt t))
  by_cases e : t.data.toList = s.data.toList
  · rw [if_pos e, e]
    exact Go.Maps.atKey_put_same (k := .string s.data.toList) h1.isMap (show WideAt.IsKeyLit (.string s.data.toList) from trivial) _ _
  · rw [if_neg e, Go.Maps.atKey_put_other (by simpa using e)]
    exact h2 t ht
end Go.Proofs.YtmcekhgmmocajaaGreatDoor
namespace Go.Proofs.YtmcekhgmmocajaaGreatDoor
open Go.RowKit Me

def lessB (a b : ByteArray) : Bool := Op.bytesLess a.toList b.toList
def cmpB (a b : ByteArray) : Int := if lessB a b then -1 else if a.toList == b.toList then 0 else 1
def cmpL : List ByteArray → List ByteArray → Int
  | [], [] => 0
  | [], _ :: _ => -1
  | _ :: _, [] => 1
  | a :: l, b :: m => if cmpB a b = 0 then cmpL l m else cmpB a b
theorem isnan_any (s : ByteArray) (w : World) : Calls Tryz.prog 135 #[.string s] w fun x w' => x = .returned (.bool false) ∧ w' = w := by
  go_enter Tryz.func135, Tryz.ntmps135
  go_wp2_with fail
  go_ret
  exact ⟨rfl, rfl⟩
theorem compare_any (a b : ByteArray) (w : World) : Calls Tryz.prog 114 #[.string a, .string b] w fun x w' => x = .returned (.int .i64 (cmpB a b)) ∧ w' = w := by
  have H := Lib.hid (fun s w => isnan_any s w)
  have HC := Lib.hid (show cmpB a b = if Op.bytesLess a.toList b.toList then -1 else if a.toList == b.toList then 0 else 1 from rfl)
  generalize cmpB a b = q at *
  go_enter Tryz.func114, Tryz.ntmps114
  go_wp2_with fail
  refine (H.out _ _).mono ?_; rintro x w1 ⟨rfl, rfl⟩
  go_wp2_with fail
  refine (H.out _ _).mono ?_; rintro x w1 ⟨rfl, rfl⟩
  go_wp2_with fail
  all_goals go_ret
  all_goals (have hq := HC.out; clear HC H)
  all_goals (refine ⟨?_, rfl⟩; rw [hq])
  all_goals simp_all
theorem cmpL_step (L M : List ByteArray) (k : Nat) (p q : ByteArray) (hp : L[k]? = some p) (hq : M[k]? = some q) : cmpL (L.drop k) (M.drop k) = if cmpB p q = 0 then cmpL (L.drop (k + 1)) (M.drop (k + 1)) else cmpB p q := by
  obtain ⟨h1, rfl⟩ := List.getElem?_eq_some_iff.1 hp
  obtain ⟨h2, rfl⟩ := List.getElem?_eq_some_iff.1 hq
  rw [List.drop_eq_getElem_cons h1, List.drop_eq_getElem_cons h2]
  rfl
theorem cmpL_short (L M : List ByteArray) (k : Nat) (h1 : k < L.length) (h2 : M.length ≤ k) : cmpL (L.drop k) (M.drop k) = 1 := by
  rw [List.drop_eq_getElem_cons h1, List.drop_eq_nil_of_le h2]
  rfl
theorem cmpL_less (M : List ByteArray) (L : List ByteArray) (k : Nat) (h1 : L.length ≤ k) (h2 : k < M.length) : cmpL (L.drop k) (M.drop k) = -1 := by
  rw [List.drop_eq_getElem_cons h2, List.drop_eq_nil_of_le h1]
  rfl
theorem cmpL_same (M : List ByteArray) (L : List ByteArray) (k : Nat) (h1 : L.length ≤ k) (h2 : M.length ≤ k) : cmpL (L.drop k) (M.drop k) = 0 := by
  rw [List.drop_eq_nil_of_le h2, List.drop_eq_nil_of_le h1]
  rfl
def RelCm (w : World) (L M : List ByteArray) (i : Value) (wr : World) : Prop := ∃ k : Nat, k ≤ L.length ∧ k ≤ M.length ∧ i = .int .i64 k ∧ cmpL L M = cmpL (L.drop k) (M.drop k) ∧ w = wr
set_option maxRecDepth 100000 in
set_option maxHeartbeats 1000000 in
theorem scompare_any {w : World} (L M : List ByteArray) {v u : Value} (h : Rd w v (L.map Value.string)) (h' : Rd w u (M.map Value.string)) :
    Calls Tryz.prog 91 #[v, u] w fun x w' => x = .returned (.int .i64 (cmpL L M)) ∧ w' = w := by
  obtain ⟨A, c, rfl, a1, a2, a3⟩ := h
  obtain ⟨B, d, rfl, b1, b2, b3⟩ := h'
  simp only [List.length_map] at *
  have H := Lib.hid (fun a b w => compare_any a b w)
  have H3 := Lib.hid a3
  have K3 := Lib.hid b3
  have hLm : L.length ≤ 9223372036854775807 := by unfold maxLen at a2; omega
  clear a1 a2 a3 b1 b2 b3
  go_enter Tryz.func91, Tryz.ntmps91
  go_wp2_with fail
  go_loopw [11] (fun i wr => RelCm w L M i wr) (fun i _ => L.length - (intOf i).toNat)
  case atStart => exact ⟨0, by omega, by omega, rfl, rfl, rfl⟩
  case round =>
    obtain ⟨k, hk, hk2, rfl, he, rfl⟩ := hrel
    have HE := Lib.hid he
    clear he
    rcases Nat.lt_or_ge k L.length with hlt | hge
    · obtain ⟨p, hp⟩ : ∃ p, L[k]? = some p := ⟨_, List.getElem?_eq_getElem hlt⟩
      obtain ⟨g, off, rfl, c1⟩ := H3.out k (.string p) (by rw [List.getElem?_map, hp]; rfl)
      rcases Nat.lt_or_ge k M.length with hlt2 | hge2
      · obtain ⟨q, hq⟩ : ∃ q, M[k]? = some q := ⟨_, List.getElem?_eq_getElem hlt2⟩
        obtain ⟨g2, off2, rfl, c2⟩ := K3.out k (.string q) (by rw [List.getElem?_map, hq]; rfl)
        have HS := Lib.hid (HE.out.trans (cmpL_step L M k p q hp hq))
        clear hp hq
        go_wp2_with fail
        refine (H.out _ _ _).mono ?_; rintro x w1 ⟨rfl, rfl⟩
        by_cases h0 : cmpB p q = 0
        · rw [if_pos h0] at HS
          rw [h0]
          go_wp2_with fail
          exact ⟨⟨k + 1, by omega, by omega, rfl, HS.out, rfl⟩, by simp only [intOf]; omega⟩
        · rw [if_neg h0] at HS
          have hne : (cmpB p q != 0) = true := bne_iff_ne.2 h0
          generalize cmpB p q = z at *
          go_wp2_with fail
          go_ret
          exact ⟨by rw [HS.out]; rfl, rfl⟩
      · have HS := Lib.hid (HE.out.trans (cmpL_short L M k hlt hge2))
        go_wp2_with fail
        go_ret
        exact ⟨by rw [HS.out]; rfl, rfl⟩
    · obtain rfl : k = L.length := by omega
      by_cases hl : L.length < M.length
      · have HS := Lib.hid (HE.out.trans (cmpL_less M L _ (Nat.le_refl _) hl))
        go_wp2_with fail
        go_ret
        exact ⟨by rw [HS.out]; rfl, rfl⟩
      · have HS := Lib.hid (HE.out.trans (cmpL_same M L _ (Nat.le_refl _) (by omega)))
        go_wp2_with fail
        go_ret
        exact ⟨by rw [HS.out]; rfl, rfl⟩
end Go.Proofs.YtmcekhgmmocajaaGreatDoor
namespace Go.Proofs.YtmcekhgmmocajaaGreatDoor
open Go.RowKit Me

set_option maxHeartbeats 1000000 in
set_option maxRecDepth 100000 in
theorem order_any {w : World} (a b : ByteArray) (ha : a.size < 4294967281) (hb : b.size < 4294967281) (hT : Tabs w) :
    Calls Tryz.prog 50 #[.string a, .string b] w fun x w' => x = .returned (.int .i64 (cmpL (partsP a) (partsP b))) ∧ Mods [] w w' := by
  have H1 := Lib.hid (parts_any a w ha hT)
  have H2 := Lib.hid (fun w' (hw : Mods [] w w') => parts_any b w' hb (hT.keep (hw.toBelow (by simp))))
  generalize partsP a = L at *
  generalize partsP b = M at *
  go_enter Tryz.func50, Tryz.ntmps50
  go_wp2_with fail
  refine H1.out.mono ?_; rintro x w1 ⟨v, rfl, hr, hm⟩
  have HR := Lib.hid hr
  have HM := Lib.hid hm
  clear hr hm
  obtain ⟨A, c, rfl, -⟩ := HR.out
  go_wp2_with fail
  refine (H2.out _ HM.out).mono ?_; rintro x w2 ⟨v, rfl, hr, hm⟩
  have HC := Lib.hid (scompare_any L M (HR.out.mods hm (by simp)) hr)
  have HM2 := Lib.hid (HM.out.trans hm (by simp))
  obtain ⟨B, d, rfl, -⟩ := hr
  simp only [List.length_map] at HC
  clear hm
  go_wp2_with fail
  refine HC.out.mono ?_; rintro x w3 ⟨rfl, rfl⟩
  go_wp2_with fail
  go_ret
  exact ⟨rfl, HM2.out⟩
end Go.Proofs.YtmcekhgmmocajaaGreatDoor
namespace Go.Proofs.YtmcekhgmmocajaaGreatDoor
open Go.RowKit Me Go.BigFrame

namespace Me
/-- The worlds in which what was there in w is as it was. -/
def InC (w w' : World) : Prop := Mods [] w w'
theorem InC.drew (w : World) : InC w w.drew := (Mods.refl [] w).drew
section
variable {P : Program} {ops : Array Oper} {C : World → Prop}
theorem wpQuiet_plain {Q : Act → Prop} {a : Act} {o : Oper} {rest : List Oper} (hg : o.guard = none) (h : o.quiet P a C (wpQuiet P ops C Q rest)) : wpQuiet P ops C Q (o :: rest) a := by
  unfold wpQuiet
  rw [if_pos (by simp [Region.wanted, hg])]
  exact h
end
end Me
/-- How many directories of this path are there? -/
def dirsN (l : List EntP) (s : ByteArray) : Nat := (l.filter fun e => isDirN e.mode && decide (s.data.toList = e.path.data.toList)).length
theorem dirsN_snoc (l : List EntP) (e : EntP) (s : ByteArray) : dirsN (l ++ [e]) s = dirsN l s + (if isDirN e.mode && decide (s.data.toList = e.path.data.toList) then 1 else 0) := by
  unfold dirsN
  rw [List.filter_append, List.length_append]
  congr 1
  simp only [List.filter_cons, List.filter_nil]
  cases h : isDirN e.mode && decide (s.data.toList = e.path.data.toList) <;> simp
theorem dirsN_le (l : List EntP) (s : ByteArray) : dirsN l s ≤ l.length := List.length_filter_le _ _
/-- The directory that a path of such parts lies in. -/
def upB (p : List ByteArray) : ByteArray := if 1 < p.length then mkB (joinS p.dropLast) else ⟨#[46]⟩
/-- Is the entry behind these in order? -/
def ordAt (l : List EntP) (e : EntP) : Bool :=
  match l.getLast? with
  | none => (partsP e.path).isEmpty
  | some x => !(partsP e.path).isEmpty && (decide (dirsN l (upB (partsP e.path)) ≠ 0) && decide (cmpL (partsP x.path) (partsP e.path) < 0))
def ordE (L : List EntP) : Bool := (List.range L.length).all fun k => match L[k]? with
  | none => true
  | some e => ordAt (L.take k) e
def ordTo (L : List EntP) (k : Nat) : Bool := (List.range k).all fun k => match L[k]? with
  | none => true
  | some e => ordAt (L.take k) e
theorem ordTo_snoc (L : List EntP) (k : Nat) (e : EntP) (h : L[k]? = some e) : ordTo L (k + 1) = (ordTo L k && ordAt (L.take k) e) := by
  unfold ordTo
  rw [List.range_succ, List.all_append]
  simp [h]
theorem ordTo_false (L : List EntP) (k : Nat) (h : ordTo L k = false) (hk : k ≤ L.length) : ordE L = false := by
  unfold ordTo at h
  unfold ordE
  rw [List.all_eq_false] at h ⊢
  obtain ⟨x, hx, h2⟩ := h
  exact ⟨x, by rw [List.mem_range] at hx ⊢; omega, h2⟩
def RelOd (L : List EntP) (b : Nat) (w1 : World) (i : Value) (wr : World) : Prop :=
  ∃ k : Nat, k ≤ L.length ∧ i = .int .i64 k ∧ ordTo L k = true ∧ Mods [b] w1 wr ∧ Cnt wr b k (fun s => (dirsN (L.take k) s : Nat))
/-- The first parts of a row. -/
theorem rd_init {w : World} {A : Option Addr} {c : Nat} {l : List ByteArray} (h : Rd w (.slice A l.length c) (l.map Value.string)) (k : Nat) (hk : k ≤ l.length) : Rd w (.slice A k c) ((l.take k).map Value.string) := by
  obtain ⟨A', c', e, h1, h2, h3⟩ := h
  obtain ⟨rfl, _, rfl⟩ := Value.slice.inj e
  rw [List.length_map] at h1
  refine ⟨A, c, by simp [Nat.min_eq_left hk], by simp; omega, h2, fun j u hu => h3 j u ?_⟩
  rw [List.getElem?_map] at hu ⊢
  have hj : j < k := by
    have := (List.getElem?_eq_some_iff.1 (show ((l.take k).map Value.string)[j]? = some u by rw [List.getElem?_map]; exact hu)).1
    simp at this
    omega
  rw [List.getElem?_take, if_pos hj] at hu
  exact hu
theorem wpList_cnt {w : World} {ops : Array Oper} {rest : List Oper} {o : Oper} {a : Act} {Q : Exit → Act → World → Prop} (hg : o.guard = none) (m x v : Operand) (hop : o.op = Op.mapUpdate 83 m x v)
    (b n : Nat) (cnt : ByteArray → Int) (hm : a.eval m = .map (some b)) (h : Cnt w b n cnt) (hn : n < maxLen) (s : ByteArray) (hs : s.size ≤ maxLen) (hx : a.eval x = .string s) (u : Int) (hv : a.eval v = .int .i64 u) (hw : (Lit.int .i64 u).wf = true)
    (hK : ∀ w', Cnt w' b (n + 1) (fun t => if t.data.toList = s.data.toList then u else cnt t) → Mods [b] w w' → wpList Tryz.prog ops Q rest (a.put o.dst undef) w') : wpList Tryz.prog ops Q (o :: rest) a w := by
  refine wpList_plain hg fun K' hK' => ?_
  obtain ⟨w', hrun, r1, r2⟩ := h.update hn s hs u hw
  unfold Oper.wp
  simp [execOp, hop, hm, hx, hv, hrun, Result.andThen]
  exact hK' _ _ (hK w' r1 r2)
theorem partsP_length (s : ByteArray) (hs : s.size ≤ 4294967280) : (partsP s).length ≤ 4294967290 := by
  have hl := pieces_length s
  have hcb := Lib.countB_le ⟨#[47]⟩ (by decide) _ s (Nat.le_refl _)
  unfold partsP
  split
  · simp
  · omega
theorem rd_cap {w : World} {A : Option Addr} {n c : Nat} {xs : List Value} (h : Rd w (.slice A n c) xs) : n ≤ c := by
  obtain ⟨A', c', e, h1, h2, h3⟩ := h
  obtain ⟨rfl, rfl, rfl⟩ := Value.slice.inj e
  exact h1
theorem lenJ_parts (s : ByteArray) : lenJ (partsP s) ≤ s.size + 1 := by
  unfold partsP
  split
  · exact Nat.zero_le _
  · rw [lenJ_pieces]; exact Nat.le_refl _
theorem up_size (s : ByteArray) : (upB (partsP s)).size ≤ s.size + 1 ∧ (joinS (partsP s).dropLast).length ≤ s.size + 1 := by
  have h : (joinS (partsP s).dropLast).length ≤ s.size + 1 := Nat.le_trans (joinS_len _) (Nat.le_trans (lenJ_sub (List.dropLast_sublist _)) (lenJ_parts s))
  refine ⟨?_, h⟩
  unfold upB
  split
  · simp only [mkB, ByteArray.size, List.size_toArray]
    exact h
  · show 1 ≤ _
    omega
theorem wf64 (u : Int) (h : -9223372036854775808 ≤ u ∧ u ≤ 9223372036854775807) : (Lit.int .i64 u).wf = true := by
  have := wrap64_wf u
  rwa [IntWalk.wrap64_in u h] at this
theorem info38 : (Tryz.prog.info? 47).map (·.size) = some 5 := by kernel_rfl
theorem dots_size : (⟨#[46]⟩ : ByteArray).size ≤ maxLen := by unfold maxLen; decide
/-- One directory more. -/
theorem cnt_next {w : World} {b k : Nat} {L : List EntP} {e : EntP} (hs : L[k]? = some e) (hd : isDirN e.mode = true) {u : Int} (hu : u = (dirsN (L.take k) e.path : Nat) + 1)
    (h : Cnt w b (k + 1) (fun t => if t.data.toList = e.path.data.toList then u else ((dirsN (L.take k) t : Nat) : Int))) : Cnt w b (k + 1) (fun t => ((dirsN (L.take (k + 1)) t : Nat) : Int)) := by
  obtain ⟨D, h1, h2⟩ := h
  refine ⟨D, h1, fun t ht => ?_⟩
  rw [h2 t ht, List.take_add_one, hs]
  show _ = DataW.lit (.int .i64 ((dirsN (L.take k ++ [e]) t : Nat) : Int))
  rw [dirsN_snoc, hd]
  by_cases h3 : t.data.toList = e.path.data.toList
  · have h4 : t = e.path := data_inj h3
    subst h4
    simp [hu]
  · simp [h3]
theorem cnt_same {w : World} {b k : Nat} {L : List EntP} {e : EntP} (hs : L[k]? = some e) (hd : isDirN e.mode = false)
    (h : Cnt w b k (fun t => ((dirsN (L.take k) t : Nat) : Int))) : Cnt w b (k + 1) (fun t => ((dirsN (L.take (k + 1)) t : Nat) : Int)) := by
  obtain ⟨D, h1, h2⟩ := h
  refine ⟨D, h1.mono (by omega), fun t ht => ?_⟩
  rw [h2 t ht, List.take_add_one, hs]
  show _ = DataW.lit (.int .i64 ((dirsN (L.take k ++ [e]) t : Nat) : Int))
  rw [dirsN_snoc, hd]
  simp
set_option maxRecDepth 100000 in
set_option maxHeartbeats 1500000 in
theorem ordered_any {w : World} (L : List EntP) {v : Value} (h : Ents w v L) (hz : ∀ e ∈ L, Small e) (hT : Tabs w) :
    Calls Tryz.prog 23 #[v] w fun x w' => x = .returned (.bool (ordE L)) ∧ Mods [] w w' := by
  have H := Lib.hid h
  have HZ := Lib.hid hz
  obtain ⟨A, c, rfl, h1, h2, -⟩ := h
  have hLm : L.length ≤ 9223372036854775807 := by unfold maxLen at h2; omega
  have hmm := @run_makeMap Tryz.prog
  clear hz h1 h2
  go_enter Tryz.func23, Tryz.ntmps23
  go_wp2_with fail
  have HC0 := Lib.hid (Cnt.start w)
  have HM0 := Lib.hid ((Mods.refl [] w).alloc (.map #[] 0))
  have hb0 : w.heap.size < (w.alloc (.map #[] 0)).heap.size := by simp
  generalize w.alloc (.map #[] 0) = w1 at *
  have HB := Lib.hid (show ∀ x ∈ [w.heap.size], x ∈ ([] : List Nat) ∨ w.heap.size ≤ x by simp)
  have H1 := Lib.hid (H.out.mods HM0.out)
  have HT1 := Lib.hid (Tabs.mods hT HM0.out)
  go_loopw [11] (fun i wr => RelOd L w.heap.size w1 i wr) (fun i _ => L.length - (intOf i).toNat)
  case atStart => exact ⟨0, by omega, rfl, rfl, Mods.refl _ _, HC0.out⟩
  case round =>
    obtain ⟨k, hk, rfl, hord, hm, hc⟩ := hrel
    have HORD := Lib.hid hord
    have HMW : Hid (Mods [] w wr) := Lib.hid (HM0.out.trans hm HB.out)
    have HM := Lib.hid hm
    have HC := Lib.hid hc
    clear hord hm hc
    rcases Nat.lt_or_ge k L.length with hlt | hge
    · obtain ⟨e, hs⟩ : ∃ e, L[k]? = some e := ⟨_, List.getElem?_eq_getElem hlt⟩
      obtain ⟨g, off, vd, rfl, hrg, hrd⟩ := (H.out.mods HMW.out).at hs
      obtain ⟨vA, vc, rfl, -⟩ := id hrd
      have HRG := Lib.hid hrg
      have HRD := Lib.hid hrd
      have hsm := HZ.out e (List.mem_of_getElem? hs)
      have HTR := Lib.hid (Tabs.mods hT HMW.out)
      clear hrg hrd
      rw [List.length_map] at *
      simp only [entC] at HRG
      have HX := Lib.hid (heap_alloc_new wr (.cells #[.string e.path, .int .u32 (e.mode : Int), .int .u32 (e.mtime : Int), .string e.gid, .slice vA e.data.length vc] 47))
      have HM2 : Hid (Mods [] wr (wr.alloc (.cells #[.string e.path, .int .u32 (e.mode : Int), .int .u32 (e.mtime : Int), .string e.gid, .slice vA e.data.length vc] 47))) := Lib.hid ((Mods.refl _ _).alloc _)
      go_wp2_with (first | (refine wpList_load_mid rfl 47 _ rfl g (off + k * 5) rfl [.string e.path, .int .u32 (e.mode : Int), .int .u32 (e.mtime : Int), .string e.gid, .slice vA e.data.length vc] _ HRG.out Tryz.underlying47 rfl info38t ?_))
      generalize wr.alloc (.cells #[.string e.path, .int .u32 (e.mode : Int), .int .u32 (e.mtime : Int), .string e.gid, .slice vA e.data.length vc] 47) = w2 at *
      refine (parts_any e.path w2 (by have := hsm.path; omega) (HTR.out.mods HM2.out)).mono ?_
      rintro x w3 ⟨v, rfl, hr, hm3⟩
      obtain ⟨AP, cp, rfl, -⟩ := id hr
      have HP := Lib.hid hr
      have hX3 := hm3.heap HX.out (by simp)
      have c0 := cell_of_row _ _ 0 _ _ _ hX3
      simp only [List.getElem?_toArray, List.getElem?_cons_zero] at c0
      have HX3 := Lib.hid hX3
      have HM3 := Lib.hid (HM2.out.trans hm3 (by simp))
      have HC3 := Lib.hid (HC.out.mods HM3.out (by simp))
      have hpm : e.path.size ≤ maxLen := by have := hsm.path; unfold maxLen; omega
      have HDI := Lib.hid (fun w' => isdir_any e (.slice vA e.data.length vc) w' hsm.mode)
      unfold entV at HDI
      have HSN := Lib.hid (ordTo_snoc L k e hs)
      have hbx : wr.heap.size ≠ w.heap.size := by have := HM0.out.size; have := HM.out.size; omega
      clear hr hX3 hm3 HX HM2
      generalize hbxe : wr.heap.size = bx at *
      have HPL := Lib.hid (partsP_length e.path (by have := hsm.path; omega))
      generalize hPe : partsP e.path = P at *
      rw [List.length_map] at *
      rcases Nat.eq_zero_or_pos k with hk0 | hk0
      · subst hk0
        cases P with
        | nil =>
          have hord2 : ordTo L (0 + 1) = true := by
            rw [HSN.out, HORD.out]
            simp [ordAt, hPe]
          simp only [List.length_nil] at *
          go_wp2_with (first | (refine wpList_load_row rfl 47 _ rfl bx rfl 47 #[.string e.path, .int .u32 (e.mode : Int), .int .u32 (e.mtime : Int), .string e.gid, .slice vA e.data.length vc] (0, 0) _ HX3.out Tryz.underlying47 rfl info38 ?_))
          refine (HDI.out _).mono ?_
          rintro x w5 ⟨rfl, hm5⟩
          have HX5 := Lib.hid (hm5.heap HX3.out (by simp))
          have HC5 := Lib.hid (HC3.out.mods hm5 (by simp))
          have HM5 := Lib.hid (HM.out.trans (HM3.out.trans hm5 (by simp)) (by simp))
          clear hm5 HX3 HC3 HM3 HDI
          cases hd : isDirN e.mode
          · have HCN := Lib.hid (cnt_same hs hd HC5.out)
            have HOR := Lib.hid hord2
            clear hs hord2
            go_wp2_with fail
            exact ⟨⟨0 + 1, by omega, rfl, HOR.out, HM5.out, HCN.out⟩, by simp only [intOf]; omega⟩
          · have hlook := HC5.out.look e.path hpm
            have d0 := cell_of_row _ _ 0 _ _ _ HX5.out
            simp only [List.getElem?_toArray, List.getElem?_cons_zero] at d0
            have hle := dirsN_le (L.take (0)) e.path
            rw [List.length_take] at hle
            have HCN := Lib.hid (fun u hu w6 h => cnt_next (w := w6) (b := w.heap.size) (k := 0) hs hd (u := u) hu h)
            have HOR := Lib.hid hord2
            clear hs hord2
            rw [show ((dirsN (L.take 0) e.path : Nat) : Int) = 0 from rfl] at hlook
            go_wp2_with (first | (at_mapUpdate; refine wpList_cnt rfl _ _ _ rfl w.heap.size (0) _ rfl HC5.out (by have := hLm; unfold maxLen; omega) e.path hpm rfl _ rfl (by first | exact wf64 _ (by omega) | exact wrap64_wf _) ?_; intro w6 hc6 hm6; have HC6 := Lib.hid (HCN.out _ (by first | rfl | omega) _ hc6); have HM6 := Lib.hid (HM5.out.trans hm6 (by simp)); clear hc6 hm6))
            exact ⟨⟨0 + 1, by omega, rfl, HOR.out, HM6.out, HC6.out⟩, by simp only [intOf]; omega⟩
        | cons p P =>
          have hord2 : ordTo L (0 + 1) = false := by
            rw [HSN.out, HORD.out]
            simp [ordAt, hPe]
          have hPl : (p :: P).length ≠ 0 := by simp
          generalize (p :: P).length = pn at *
          have hPl2 : (((pn : Int) == 0) = false) := by simpa using hPl
          have HNO := Lib.hid (ordTo_false L (0 + 1) hord2 (by omega))
          clear hs hord2
          go_wp2_with fail
          go_ret
          exact ⟨by rw [HNO.out]; rfl, HM0.out.trans (HM.out.trans HM3.out (by simp)) HB.out⟩
      · obtain ⟨j, rfl⟩ : ∃ j, k = j + 1 := ⟨k - 1, by omega⟩
        obtain ⟨x, hx⟩ : ∃ x, L[j]? = some x := ⟨_, List.getElem?_eq_getElem (by omega)⟩
        have hk2 : ((((j + 1 : Nat) : Int) == 0) = false) := by simp; omega
        have hk3 : (((j : Int) + 1 == 0) = false) := by simp; omega
        have hlast : (L.take (j + 1)).getLast? = some x := by
          rw [List.getLast?_eq_getElem?, List.length_take, Nat.min_eq_left (by omega), List.getElem?_take, if_pos (by omega)]
          exact hx
        cases P with
        | nil =>
          have hord2 : ordTo L (j + 1 + 1) = false := by
            rw [HSN.out, HORD.out]
            simp [ordAt, hPe, hlast]
          simp only [List.length_nil] at *
          have HNO := Lib.hid (ordTo_false L (j + 1 + 1) hord2 (by omega))
          clear hs hord2
          go_wp2_with fail
          go_ret
          exact ⟨by rw [HNO.out]; rfl, HM0.out.trans (HM.out.trans HM3.out (by simp)) HB.out⟩
        | cons p P =>
          have HUS := Lib.hid (up_size e.path)
          rw [hPe] at HUS
          cases P with
          | nil =>
            simp only [List.length_cons, List.length_nil, Nat.zero_add] at *
            have HUB := Lib.hid (show upB [p] = ⟨#[46]⟩ from rfl)
            have hPne : [p].isEmpty = false := rfl
            go_wp2_with fail
            have HUBS := Lib.hid (show (⟨#[46]⟩ : ByteArray).size ≤ maxLen by have := HUS.out.1; have hh := hsm.path; first | (unfold maxLen; omega) | (rw [HUB.out] at this; unfold maxLen; omega))
            have HLK := Lib.hid (fun w' (hw : InC w3 w') => (HC3.out.mods hw (by simp)).look (⟨#[46]⟩ : ByteArray) HUBS.out)
            have HPRE : Hid (∀ w', InC w3 w' → w'.cell? ⟨g, off + j * 5, none⟩ = some (.string x.path)) := Lib.hid (fun w' hw => by
              obtain ⟨g', off', vd', e', hr', _⟩ := ((H.out.mods HMW.out).mods (HM3.out.trans hw (by simp))).at hx
              cases e'
              exact (range_ent hr').1)
            have HBX : Hid (∀ w', InC w3 w' → w'.cell? ⟨bx, 0, none⟩ = some (.string e.path)) := Lib.hid (fun w' hw => by
              rw [cell_of_row _ _ 0 _ _ _ (Mods.heap hw HX3.out (by simp))]
              rfl)
            have hordv : ordTo L (j + 1 + 1) = (decide (dirsN (L.take (j + 1)) (⟨#[46]⟩ : ByteArray) ≠ 0) && decide (cmpL (partsP x.path) [p] < 0)) := by
              rw [HSN.out, HORD.out]
              simp [ordAt, hlast, hPe, HUB.out, hPne]
            generalize hdz : dirsN (L.take (j + 1)) (⟨#[46]⟩ : ByteArray) = dz at *
            have HOV := Lib.hid hordv
            clear hordv
            have HORDC := Lib.hid (fun w' (hw : InC w3 w') => order_any x.path e.path (by have := (HZ.out x (List.mem_of_getElem? hx)).path; omega) (by have := hsm.path; omega) (Tabs.mods hT (HMW.out.trans (HM3.out.trans hw (by simp)) (by simp))))
            rw [hPe] at HORDC
            generalize cmpL (partsP x.path) [p] = z at *
            refine wp_region_quiet (C := InC w3) (by kernel_rfl) (by kernel_rfl) (InC.drew w3) ?_
            dsimp only [List.toList_toArray]
            iterate 3 (first | go_big_quiet_skip | (go_big_quiet_want; go_big_quiet_op; first | go_big_quiet_on | (apply Exists.intro; refine ⟨fun w' hw' => ?_, ?_⟩; (first | rfl | (rw [HLK.out w' hw']; exact ⟨rfl, rfl⟩) | (rw [HPRE.out w' hw']; exact ⟨rfl, rfl⟩) | (rw [HBX.out w' hw']; exact ⟨rfl, rfl⟩)); go_big_quiet_on)))
            rcases Nat.eq_zero_or_pos dz with hz | hz
            · have hz2 : (((dz : Nat) : Int) == 0) = true := by simp; omega
              repeat (first | go_big_quiet_skip | (go_big_quiet_want; go_big_quiet_op; first | go_big_quiet_on | (apply Exists.intro; refine ⟨fun w' hw' => ?_, ?_⟩; (first | rfl | (rw [HLK.out w' hw']; exact ⟨rfl, rfl⟩) | (rw [HPRE.out w' hw']; exact ⟨rfl, rfl⟩) | (rw [HBX.out w' hw']; exact ⟨rfl, rfl⟩)); go_big_quiet_on)))
              refine wpQuiet_nil ?_
              intro w5 hw5
              have HM5 := Lib.hid (HM3.out.trans hw5 (by simp))
              have hord2 : ordTo L (j + 1 + 1) = false := by rw [HOV.out, hz]; rfl
              have HNO := Lib.hid (ordTo_false L (j + 1 + 1) hord2 (by omega))
              clear hs hord2 hw5
              go_wp2_with fail
              go_ret
              exact ⟨by rw [HNO.out]; rfl, HM0.out.trans (HM.out.trans HM5.out (by simp)) HB.out⟩
            · have hz2 : (((dz : Nat) : Int) == 0) = false := by simp; omega
              repeat (first | go_big_quiet_skip | (go_big_quiet_want; go_big_quiet_op; first | go_big_quiet_on | (apply Exists.intro; refine ⟨fun w' hw' => ?_, ?_⟩; (first | rfl | (rw [HLK.out w' hw']; exact ⟨rfl, rfl⟩) | (rw [HPRE.out w' hw']; exact ⟨rfl, rfl⟩) | (rw [HBX.out w' hw']; exact ⟨rfl, rfl⟩)); go_big_quiet_on)))
              go_big_quiet_want
              go_big_quiet_op
              apply Exists.intro
              refine ⟨fun w' hw' => (HORDC.out w' hw').mono fun _ _ hh => ⟨hh.1, Mods.trans hw' hh.2 (by simp)⟩, ?_⟩
              go_big_quiet_on
              by_cases hneg : z < 0
              · have hn2 : decide (0 ≤ z) = false := decide_eq_false (by omega)
                repeat (first | go_big_quiet_skip | (go_big_quiet_want; go_big_quiet_op; first | go_big_quiet_on | (apply Exists.intro; refine ⟨fun w' hw' => ?_, ?_⟩; (first | rfl | (rw [HLK.out w' hw']; exact ⟨rfl, rfl⟩) | (rw [HPRE.out w' hw']; exact ⟨rfl, rfl⟩) | (rw [HBX.out w' hw']; exact ⟨rfl, rfl⟩)); go_big_quiet_on)))
                refine wpQuiet_nil ?_
                intro w5 hw5
                have hord2 : ordTo L (j + 1 + 1) = true := by rw [HOV.out]; simp [hneg]; omega
                have HXn := Lib.hid (Mods.heap hw5 HX3.out (by simp))
                have HCn := Lib.hid (HC3.out.mods hw5 (by simp))
                have HMn := Lib.hid (HM3.out.trans hw5 (by simp))
                clear hw5 HX3 HC3 HM3 HLK HPRE HBX HORDC HOV
                have HX3 := HXn
                have HC3 := HCn
                have HM3 := HMn
                clear HXn HCn HMn
                go_wp2_with (first | (refine wpList_load_row rfl 47 _ rfl bx rfl 47 #[.string e.path, .int .u32 (e.mode : Int), .int .u32 (e.mtime : Int), .string e.gid, .slice vA e.data.length vc] (0, 0) _ HX3.out Tryz.underlying47 rfl info38 ?_))
                refine (HDI.out _).mono ?_
                rintro x w7 ⟨rfl, hm5⟩
                have HX7 := Lib.hid (hm5.heap HX3.out (by simp))
                have HC7 := Lib.hid (HC3.out.mods hm5 (by simp))
                have HM7 := Lib.hid (HM.out.trans (HM3.out.trans hm5 (by simp)) (by simp))
                clear hm5 HX3 HC3 HM3 HDI
                cases hd : isDirN e.mode
                · have HCN := Lib.hid (cnt_same hs hd HC7.out)
                  have HOR := Lib.hid hord2
                  clear hs hord2
                  go_wp2_with fail
                  exact ⟨⟨j + 1 + 1, by omega, rfl, HOR.out, HM7.out, HCN.out⟩, by simp only [intOf]; omega⟩
                · have hlook := HC7.out.look e.path hpm
                  have d0 := cell_of_row _ _ 0 _ _ _ HX7.out
                  simp only [List.getElem?_toArray, List.getElem?_cons_zero] at d0
                  have hle := dirsN_le (L.take (j + 1)) e.path
                  rw [List.length_take] at hle
                  have HCN := Lib.hid (fun u hu w6 h => cnt_next (w := w6) (b := w.heap.size) (k := j + 1) hs hd (u := u) hu h)
                  have HOR := Lib.hid hord2
                  clear hs hord2
                  generalize dirsN (L.take (j + 1)) e.path = dn at *
                  go_wp2_with (first | (at_mapUpdate; refine wpList_cnt rfl _ _ _ rfl w.heap.size (j + 1) _ rfl HC7.out (by have := hLm; unfold maxLen; omega) e.path hpm rfl _ rfl (by first | exact wf64 _ (by omega) | exact wrap64_wf _) ?_; intro w6 hc6 hm6; have HC6 := Lib.hid (HCN.out _ (by first | rfl | omega) _ hc6); have HM6 := Lib.hid (HM7.out.trans hm6 (by simp)); clear hc6 hm6))
                  exact ⟨⟨j + 1 + 1, by omega, rfl, HOR.out, HM6.out, HC6.out⟩, by simp only [intOf]; omega⟩
              · have hn2 : decide (0 ≤ z) = true := decide_eq_true (by omega)
                repeat (first | go_big_quiet_skip | (go_big_quiet_want; go_big_quiet_op; first | go_big_quiet_on | (apply Exists.intro; refine ⟨fun w' hw' => ?_, ?_⟩; (first | rfl | (rw [HLK.out w' hw']; exact ⟨rfl, rfl⟩) | (rw [HPRE.out w' hw']; exact ⟨rfl, rfl⟩) | (rw [HBX.out w' hw']; exact ⟨rfl, rfl⟩)); go_big_quiet_on)))
                refine wpQuiet_nil ?_
                intro w5 hw5
                have HM5 := Lib.hid (HM3.out.trans hw5 (by simp))
                have hord2 : ordTo L (j + 1 + 1) = false := by rw [HOV.out]; simp [hneg]
                have HNO := Lib.hid (ordTo_false L (j + 1 + 1) hord2 (by omega))
                clear hs hord2 hw5
                go_wp2_with fail
                go_ret
                exact ⟨by rw [HNO.out]; rfl, HM0.out.trans (HM.out.trans HM5.out (by simp)) HB.out⟩
          | cons q P =>
            obtain ⟨m, hm⟩ : ∃ m, P.length + 1 = m := ⟨_, rfl⟩
            have hlen : (p :: q :: P).length = m + 1 := by simp [hm]
            have HDL : Hid ((p :: q :: P).take m = (p :: q :: P).dropLast) := Lib.hid (by rw [List.dropLast_eq_take, hlen]; rfl)
            have HUB := Lib.hid (show upB (p :: q :: P) = mkB (joinS (p :: q :: P).dropLast) by unfold upB; rw [if_pos (by omega)])
            have hin := rd_init HP.out m (by omega)
            rw [HDL.out] at hin
            have HJ := Lib.hid (sjoin_any (p :: q :: P).dropLast _ w3 hin (by rw [List.length_dropLast, hlen]; have := HPL.out; omega) (by have := HUS.out.2; have := hsm.path; omega))
            have hml := rd_cap HP.out
            have hPm : m + 1 ≤ 4294967290 := by have := HPL.out; omega
            clear HPL
            rw [hlen] at *
            have hm1 : 1 ≤ m := by omega
            clear hin
            have hPne : (p :: q :: P).isEmpty = false := rfl
            generalize hPP : p :: q :: P = PP at *
            clear hm hlen
            go_wp2_with fail
            refine HJ.out.mono ?_
            rintro z w4 ⟨rfl, hb4⟩
            rw [← HUB.out]
            have hm4 := Mods.below hb4 []
            have HXa := Lib.hid (hm4.heap HX3.out (by simp))
            have HCa := Lib.hid (HC3.out.mods hm4 (by simp))
            have HMa := Lib.hid (HM3.out.trans hm4 (by simp))
            clear hb4 hm4 HX3 HC3 HM3 HJ
            generalize hUBe : upB PP = UBv at *
            clear HUB
            have HUB := Lib.hid hUBe
            go_wp2_with fail
            have HUBS := Lib.hid (show UBv.size ≤ maxLen by have := HUS.out.1; have hh := hsm.path; first | (unfold maxLen; omega) | (rw [HUB.out] at this; unfold maxLen; omega))
            have HLK := Lib.hid (fun w' (hw : InC w4 w') => (HCa.out.mods hw (by simp)).look UBv HUBS.out)
            have HPRE : Hid (∀ w', InC w4 w' → w'.cell? ⟨g, off + j * 5, none⟩ = some (.string x.path)) := Lib.hid (fun w' hw => by
              obtain ⟨g', off', vd', e', hr', _⟩ := ((H.out.mods HMW.out).mods (HMa.out.trans hw (by simp))).at hx
              cases e'
              exact (range_ent hr').1)
            have HBX : Hid (∀ w', InC w4 w' → w'.cell? ⟨bx, 0, none⟩ = some (.string e.path)) := Lib.hid (fun w' hw => by
              rw [cell_of_row _ _ 0 _ _ _ (Mods.heap hw HXa.out (by simp))]
              rfl)
            have hordv : ordTo L (j + 1 + 1) = (decide (dirsN (L.take (j + 1)) UBv ≠ 0) && decide (cmpL (partsP x.path) PP < 0)) := by
              rw [HSN.out, HORD.out]
              simp [ordAt, hlast, hPe, HUB.out, hPne]
            generalize hdz : dirsN (L.take (j + 1)) UBv = dz at *
            have HOV := Lib.hid hordv
            clear hordv
            have HORDC := Lib.hid (fun w' (hw : InC w4 w') => order_any x.path e.path (by have := (HZ.out x (List.mem_of_getElem? hx)).path; omega) (by have := hsm.path; omega) (Tabs.mods hT (HMW.out.trans (HMa.out.trans hw (by simp)) (by simp))))
            rw [hPe] at HORDC
            generalize cmpL (partsP x.path) PP = z at *
            refine wp_region_quiet (C := InC w4) (by kernel_rfl) (by kernel_rfl) (InC.drew w4) ?_
            dsimp only [List.toList_toArray]
            iterate 3 (first | go_big_quiet_skip | (go_big_quiet_want; go_big_quiet_op; first | go_big_quiet_on | (apply Exists.intro; refine ⟨fun w' hw' => ?_, ?_⟩; (first | rfl | (rw [HLK.out w' hw']; exact ⟨rfl, rfl⟩) | (rw [HPRE.out w' hw']; exact ⟨rfl, rfl⟩) | (rw [HBX.out w' hw']; exact ⟨rfl, rfl⟩)); go_big_quiet_on)))
            rcases Nat.eq_zero_or_pos dz with hz | hz
            · have hz2 : (((dz : Nat) : Int) == 0) = true := by simp; omega
              repeat (first | go_big_quiet_skip | (go_big_quiet_want; go_big_quiet_op; first | go_big_quiet_on | (apply Exists.intro; refine ⟨fun w' hw' => ?_, ?_⟩; (first | rfl | (rw [HLK.out w' hw']; exact ⟨rfl, rfl⟩) | (rw [HPRE.out w' hw']; exact ⟨rfl, rfl⟩) | (rw [HBX.out w' hw']; exact ⟨rfl, rfl⟩)); go_big_quiet_on)))
              refine wpQuiet_nil ?_
              intro w5 hw5
              have HM5 := Lib.hid (HMa.out.trans hw5 (by simp))
              have hord2 : ordTo L (j + 1 + 1) = false := by rw [HOV.out, hz]; rfl
              have HNO := Lib.hid (ordTo_false L (j + 1 + 1) hord2 (by omega))
              clear hs hord2 hw5
              go_wp2_with fail
              go_ret
              exact ⟨by rw [HNO.out]; rfl, HM0.out.trans (HM.out.trans HM5.out (by simp)) HB.out⟩
            · have hz2 : (((dz : Nat) : Int) == 0) = false := by simp; omega
              repeat (first | go_big_quiet_skip | (go_big_quiet_want; go_big_quiet_op; first | go_big_quiet_on | (apply Exists.intro; refine ⟨fun w' hw' => ?_, ?_⟩; (first | rfl | (rw [HLK.out w' hw']; exact ⟨rfl, rfl⟩) | (rw [HPRE.out w' hw']; exact ⟨rfl, rfl⟩) | (rw [HBX.out w' hw']; exact ⟨rfl, rfl⟩)); go_big_quiet_on)))
              go_big_quiet_want
              go_big_quiet_op
              apply Exists.intro
              refine ⟨fun w' hw' => (HORDC.out w' hw').mono fun _ _ hh => ⟨hh.1, Mods.trans hw' hh.2 (by simp)⟩, ?_⟩
              go_big_quiet_on
              by_cases hneg : z < 0
              · have hn2 : decide (0 ≤ z) = false := decide_eq_false (by omega)
                repeat (first | go_big_quiet_skip | (go_big_quiet_want; go_big_quiet_op; first | go_big_quiet_on | (apply Exists.intro; refine ⟨fun w' hw' => ?_, ?_⟩; (first | rfl | (rw [HLK.out w' hw']; exact ⟨rfl, rfl⟩) | (rw [HPRE.out w' hw']; exact ⟨rfl, rfl⟩) | (rw [HBX.out w' hw']; exact ⟨rfl, rfl⟩)); go_big_quiet_on)))
                refine wpQuiet_nil ?_
                intro w5 hw5
                have hord2 : ordTo L (j + 1 + 1) = true := by rw [HOV.out]; simp [hneg]; omega
                have HXn := Lib.hid (Mods.heap hw5 HXa.out (by simp))
                have HCn := Lib.hid (HCa.out.mods hw5 (by simp))
                have HMn := Lib.hid (HMa.out.trans hw5 (by simp))
                clear hw5 HXa HCa HMa HLK HPRE HBX HORDC HOV
                have HX3 := HXn
                have HC3 := HCn
                have HM3 := HMn
                clear HXn HCn HMn
                go_wp2_with (first | (refine wpList_load_row rfl 47 _ rfl bx rfl 47 #[.string e.path, .int .u32 (e.mode : Int), .int .u32 (e.mtime : Int), .string e.gid, .slice vA e.data.length vc] (0, 0) _ HX3.out Tryz.underlying47 rfl info38 ?_))
                refine (HDI.out _).mono ?_
                rintro x w7 ⟨rfl, hm5⟩
                have HX7 := Lib.hid (hm5.heap HX3.out (by simp))
                have HC7 := Lib.hid (HC3.out.mods hm5 (by simp))
                have HM7 := Lib.hid (HM.out.trans (HM3.out.trans hm5 (by simp)) (by simp))
                clear hm5 HX3 HC3 HM3 HDI
                cases hd : isDirN e.mode
                · have HCN := Lib.hid (cnt_same hs hd HC7.out)
                  have HOR := Lib.hid hord2
                  clear hs hord2
                  go_wp2_with fail
                  exact ⟨⟨j + 1 + 1, by omega, rfl, HOR.out, HM7.out, HCN.out⟩, by simp only [intOf]; omega⟩
                · have hlook := HC7.out.look e.path hpm
                  have d0 := cell_of_row _ _ 0 _ _ _ HX7.out
                  simp only [List.getElem?_toArray, List.getElem?_cons_zero] at d0
                  have hle := dirsN_le (L.take (j + 1)) e.path
                  rw [List.length_take] at hle
                  have HCN := Lib.hid (fun u hu w6 h => cnt_next (w := w6) (b := w.heap.size) (k := j + 1) hs hd (u := u) hu h)
                  have HOR := Lib.hid hord2
                  clear hs hord2
                  generalize dirsN (L.take (j + 1)) e.path = dn at *
                  go_wp2_with (first | (at_mapUpdate; refine wpList_cnt rfl _ _ _ rfl w.heap.size (j + 1) _ rfl HC7.out (by have := hLm; unfold maxLen; omega) e.path hpm rfl _ rfl (by first | exact wf64 _ (by omega) | exact wrap64_wf _) ?_; intro w6 hc6 hm6; have HC6 := Lib.hid (HCN.out _ (by first | rfl | omega) _ hc6); have HM6 := Lib.hid (HM7.out.trans hm6 (by simp)); clear hc6 hm6))
                  exact ⟨⟨j + 1 + 1, by omega, rfl, HOR.out, HM6.out, HC6.out⟩, by simp only [intOf]; omega⟩
              · have hn2 : decide (0 ≤ z) = true := decide_eq_true (by omega)
                repeat (first | go_big_quiet_skip | (go_big_quiet_want; go_big_quiet_op; first | go_big_quiet_on | (apply Exists.intro; refine ⟨fun w' hw' => ?_, ?_⟩; (first | rfl | (rw [HLK.out w' hw']; exact ⟨rfl, rfl⟩) | (rw [HPRE.out w' hw']; exact ⟨rfl, rfl⟩) | (rw [HBX.out w' hw']; exact ⟨rfl, rfl⟩)); go_big_quiet_on)))
                refine wpQuiet_nil ?_
                intro w5 hw5
                have HM5 := Lib.hid (HMa.out.trans hw5 (by simp))
                have hord2 : ordTo L (j + 1 + 1) = false := by rw [HOV.out]; simp [hneg]
                have HNO := Lib.hid (ordTo_false L (j + 1 + 1) hord2 (by omega))
                clear hs hord2 hw5
                go_wp2_with fail
                go_ret
                exact ⟨by rw [HNO.out]; rfl, HM0.out.trans (HM.out.trans HM5.out (by simp)) HB.out⟩

    · obtain rfl : k = L.length := by omega
      have HOE : Hid (ordE L = true) := Lib.hid (HORD.out)
      go_wp2_with fail
      go_ret
      exact ⟨by rw [HOE.out]; rfl, HMW.out⟩
end Go.Proofs.YtmcekhgmmocajaaGreatDoor
