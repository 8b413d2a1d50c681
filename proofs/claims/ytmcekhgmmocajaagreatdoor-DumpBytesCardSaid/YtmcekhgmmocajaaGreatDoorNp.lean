/- names.Check: may a file be called so? | names.Split. | Path names, plain: cut at the slashes, joined again, reduced. -/
import Derived.Test.YtmcekhgmmocajaaGreatDoorGood
import Derived.Test.YtmcekhgmmocajaaGreatDoorShelf
import Derived.Lib.SplitLaws
namespace Go.Proofs.YtmcekhgmmocajaaGreatDoor
open Go.RowKit

/-- What the library's packages read: the two tables, and a cell that holds an int. -/
structure Tabs (w : World) : Prop where
  u : Lib.Utf8Tabs 1 2 w
  m : ∃ m : Int, w.cell? ⟨0, 0, none⟩ = some (.int .i64 m)
theorem Tabs.below {B : Nat} {w w' : World} (hT : Tabs w) (h : Below B w w') (hB : 3 ≤ B) : Tabs w' :=
  ⟨tabs_below h hB hT.u, by obtain ⟨m, hm⟩ := hT.m; exact ⟨m, (h.cell (p := ⟨0, 0, none⟩) (by show 0 < B; omega)).trans hm⟩⟩
theorem Tabs.three {w : World} (hT : Tabs w) : 3 ≤ w.heap.size := tabs_two hT.u
theorem Tabs.keep {w w' : World} (hT : Tabs w) (h : Below w.heap.size w w') : Tabs w' := hT.below h hT.three

/-- May a file be called so? -/
def nameOk (s : ByteArray) : Bool := !s.toList.isEmpty && !(s.toList == [46]) && !(s.toList == [46, 46]) && decide (s.size ≤ 255) && !decide (0 ≤ Lib.indexByte s.data.toList 47) && Tx.good s.data.toList

theorem check_any (s : ByteArray) (w : World) (hs : s.size < 4294967281) (hT : Tabs w) :
    Calls Tryz.prog 110 #[.string s] w fun e w' => e = .returned (.int .i64 (if nameOk s then 0 else 50)) ∧ Below w.heap.size w w' := by
  have H1 := Lib.hid (Tryz.strings_Contains_one s 47 w)
  have H2 := Lib.hid (good_any s w (by show s.size ≤ 9223372036854775807; omega) hT.u)
  have HQ := Lib.hid (show nameOk s = (!s.toList.isEmpty && !(s.toList == [46]) && !(s.toList == [46, 46]) && decide (s.size ≤ 255) && !decide (0 ≤ Lib.indexByte s.data.toList 47) && Tx.good s.data.toList) from rfl)
  generalize nameOk s = v at *
  generalize decide (0 ≤ Lib.indexByte s.data.toList 47) = c at *
  generalize Tx.good s.data.toList = g at *
  clear hs hT
  go_enter Tryz.func110, Tryz.ntmps110
  go_wp2_with (first | (refine H1.out.mono ?_; rintro e w1 ⟨rfl, rfl⟩) | (refine H2.out.mono ?_; rintro e w1 ⟨rfl, hb1⟩))
  all_goals (have hq := HQ.out; clear HQ H1 H2)
  all_goals go_ret
  all_goals (refine ⟨?_, ?_⟩ <;> first | assumption | exact Below.refl _ _ | skip)
  all_goals (try (simp_all; done))
  all_goals (try (simp_all; omega))
end Go.Proofs.YtmcekhgmmocajaaGreatDoor
namespace Go.Proofs.YtmcekhgmmocajaaGreatDoor
open Go.RowKit

/-- The pieces between slashes. -/
def pieces (s : ByteArray) : List ByteArray := Lib.splitB ⟨#[47]⟩ 0 (Lib.countB s ⟨#[47]⟩) s
theorem splitB_size (sep : ByteArray) : ∀ (k : Nat) (s p : ByteArray), p ∈ Lib.splitB sep 0 k s → p.size ≤ s.size
  | 0, s, p, h => by rw [Lib.splitB_zero] at h; simp at h; subst h; exact Nat.le_refl _
  | k + 1, s, p, h => by
    unfold Lib.splitB at h
    split at h
    · simp at h; subst h; exact Nat.le_refl _
    · rcases List.mem_cons.1 h with rfl | h
      · simp; omega
      · have := splitB_size sep k _ p h
        simp at this; omega
theorem pieces_size (s p : ByteArray) (h : p ∈ pieces s) : p.size ≤ s.size := splitB_size _ _ _ _ h
theorem pieces_length (s : ByteArray) : (pieces s).length = Lib.countB s ⟨#[47]⟩ + 1 := Lib.splitB_all _ (by decide) 0 _ s rfl
def skipP (p : ByteArray) : Bool := p.toList.isEmpty || p.toList == [46]
def fineP (p : ByteArray) : Bool := p.toList == [46, 46] || nameOk p
/-- Are all pieces fine? -/
def fit (l : List ByteArray) : Bool := l.all (fun p => skipP p || fineP p)
def kept (l : List ByteArray) : List ByteArray := l.filter (fun p => !skipP p)
theorem kept_step (l : List ByteArray) (k : Nat) (p : ByteArray) (h : l[k]? = some p) : kept (l.take (k + 1)) = kept (l.take k) ++ (if skipP p then [] else [p]) := by
  rw [List.take_add_one, h]
  unfold kept
  rw [List.filter_append]
  cases hp : skipP p <;> simp [hp]
theorem fit_step (l : List ByteArray) (k : Nat) (p : ByteArray) (h : l[k]? = some p) : fit (l.take (k + 1)) = (fit (l.take k) && (skipP p || fineP p)) := by
  rw [List.take_add_one, h]
  unfold fit
  rw [List.all_append]
  simp
theorem fit_not (l : List ByteArray) (k : Nat) (h : fit (l.take k) = false) : fit l = false := by
  rw [← List.take_append_drop k l]
  unfold fit at h ⊢
  rw [List.all_append, h]
  rfl
end Go.Proofs.YtmcekhgmmocajaaGreatDoor
namespace Go.Proofs.YtmcekhgmmocajaaGreatDoor
open Go.RowKit

/-- The pieces between slashes, of lists. -/
def cut : List UInt8 → List (List UInt8)
  | [] => [[]]
  | b :: l => if b = 47 then [] :: cut l else match cut l with
    | [] => [[b]]
    | p :: r => (b :: p) :: r
theorem cut_ne (l : List UInt8) : cut l ≠ [] := by
  cases l with
  | nil => simp [cut]
  | cons b l =>
    unfold cut
    split
    · simp
    · split <;> simp
theorem cut_none (l : List UInt8) (h : (47 : UInt8) ∉ l) : cut l = [l] := by
  induction l with
  | nil => rfl
  | cons b l ih =>
    simp only [List.mem_cons, not_or] at h
    unfold cut
    rw [if_neg (fun e => h.1 e.symm), ih h.2]
theorem cut_at (p r : List UInt8) (h : (47 : UInt8) ∉ p) : cut (p ++ 47 :: r) = p :: cut r := by
  induction p with
  | nil => simp [cut]
  | cons b p ih =>
    simp only [List.mem_cons, not_or] at h
    rw [List.cons_append]
    conv => lhs; unfold cut
    rw [if_neg (fun e => h.1 e.symm), ih h.2]
theorem cut_mem (l : List UInt8) : ∀ p ∈ cut l, (47 : UInt8) ∉ p := by
  induction l with
  | nil => simp [cut]
  | cons b l ih =>
    unfold cut
    split
    · intro p hp
      rcases List.mem_cons.1 hp with rfl | hp
      · simp
      · exact ih p hp
    · rename_i hb
      split
      · rename_i e
        exact absurd e (cut_ne l)
      · rename_i q r e
        rw [e] at ih
        intro p hp
        rcases List.mem_cons.1 hp with rfl | hp
        · simp only [List.mem_cons, not_or]
          exact ⟨fun e => hb e.symm, ih q (by simp)⟩
        · exact ih p (by simp [hp])
theorem cut_index (l : List UInt8) : (∃ i : Nat, Lib.indexByte l 47 = (i : Int) ∧ i < l.length ∧ cut l = l.take i :: cut (l.drop (i + 1))) ∨ (Lib.indexByte l 47 = -1 ∧ cut l = [l]) := by
  induction l with
  | nil => right; exact ⟨rfl, rfl⟩
  | cons b l ih =>
    unfold Lib.indexByte
    by_cases hb : b = 47
    · left
      subst hb
      exact ⟨0, by simp, by simp, by simp [cut]⟩
    · have hb' : (b == 47) = false := by simpa using hb
      rw [hb']
      rcases ih with ⟨i, h1, h2, h3⟩ | ⟨h1, h2⟩
      · left
        refine ⟨i + 1, ?_, by simp; omega, ?_⟩
        · rw [h1]
          have : ((i : Int) == -1) = false := by simp
          simp [this]
        · conv => lhs; unfold cut
          rw [if_neg hb, h3]
          simp
      · right
        refine ⟨by rw [h1]; simp, ?_⟩
        conv => lhs; unfold cut
        rw [if_neg hb, h2]
theorem indexByte_at (l : List UInt8) : ∀ i : Nat, Lib.indexByte l 47 = (i : Int) → l[i]? = some 47 := by
  induction l with
  | nil => intro i h; simp [Lib.indexByte] at h
  | cons b l ih =>
    intro i h
    unfold Lib.indexByte at h
    by_cases hb : b = 47
    · subst hb
      simp at h
      have : i = 0 := by omega
      subst this
      rfl
    · have hb' : (b == 47) = false := by simpa using hb
      rw [hb'] at h
      simp only [Bool.false_eq_true, if_false] at h
      split at h
      · omega
      · obtain ⟨j, rfl⟩ : ∃ j, i = j + 1 := ⟨i - 1, by have := Lib.indexByte_ge l 47; rename_i hne; simp at hne; omega⟩
        rw [List.getElem?_cons_succ]
        exact ih j (by omega)
theorem splitK_cut : ∀ (k : Nat) (l : List UInt8), l.count 47 = k → Lib.splitK [47] 0 k l = cut l
  | 0, l, h => by
    rw [cut_none l (List.count_eq_zero.1 h)]
    rfl
  | k + 1, l, h => by
    unfold Lib.splitK
    rw [Lib.index_one]
    rcases cut_index l with ⟨i, h1, h2, h3⟩ | ⟨h1, h2⟩
    · have e : ((i : Int) == -1) = false := by simp
      have hno : (47 : UInt8) ∉ l.take i := cut_mem l _ (by rw [h3]; simp)
      have hi : l[i]? = some 47 := indexByte_at l i h1
      have hc : (l.drop (i + 1)).count 47 = k := by
        have hh : l = l.take i ++ 47 :: l.drop (i + 1) := by
          have e1 : l[i] = 47 := by
            have := List.getElem?_eq_getElem h2
            rw [hi] at this
            exact (Option.some.inj this).symm
          rw [← e1, ← List.drop_eq_getElem_cons h2, List.take_append_drop]
        rw [hh, List.count_append, List.count_eq_zero.2 hno, List.count_cons_self] at h
        omega
      rw [h1, e, h3]
      simp only [Int.toNat_natCast, Nat.add_zero, List.length_singleton, Bool.false_eq_true, if_false]
      rw [splitK_cut k _ hc]
    · exfalso
      have : (47 : UInt8) ∉ l := by
        have := cut_mem l l (by rw [h2]; simp)
        exact this
      rw [List.count_eq_zero.2 this] at h
      omega
theorem pieces_cut (s : ByteArray) : (pieces s).map (·.data.toList) = cut s.data.toList := by
  unfold pieces
  rw [Lib.splitB_data]
  exact splitK_cut _ _ (by show _ = Lib.count _ _; rw [Lib.count_one])
def mkB (l : List UInt8) : ByteArray := ⟨l.toArray⟩
theorem mkB_data (s : ByteArray) : mkB s.data.toList = s := by simp [mkB]
theorem data_mkB (l : List UInt8) : (mkB l).data.toList = l := by simp [mkB]
theorem mkB_inj {a b : List UInt8} (h : mkB a = mkB b) : a = b := by rw [← data_mkB a, h, data_mkB]
theorem data_inj {a b : ByteArray} (h : a.data.toList = b.data.toList) : a = b := by rw [← mkB_data a, h, mkB_data]
theorem pieces_eq (s : ByteArray) : pieces s = (cut s.data.toList).map mkB := by
  rw [← pieces_cut, List.map_map]
  conv => lhs; rw [← List.map_id (pieces s)]
  exact List.map_congr_left (fun x _ => (mkB_data x).symm)
/-- Joined by slashes. -/
def joinS (l : List ByteArray) : List UInt8 := Lib.join (l.map (·.data.toList)) [47]
theorem joinS_cons2 (p q : ByteArray) (l : List ByteArray) : joinS (p :: q :: l) = p.data.toList ++ 47 :: joinS (q :: l) := by
  unfold joinS
  rw [List.map_cons, List.map_cons, Lib.join_cons, Lib.join_cons]
  simp [Lib.joinTail]
theorem joinS_one (p : ByteArray) : joinS [p] = p.data.toList := Lib.join_one _ _
/-- What is joined is cut again. -/
theorem cut_joinS : ∀ (l : List ByteArray), l ≠ [] → (∀ p ∈ l, (47 : UInt8) ∉ p.data.toList) → cut (joinS l) = l.map (·.data.toList)
  | [], h, _ => absurd rfl h
  | [p], _, h => by rw [joinS_one, cut_none _ (h p (by simp))]; rfl
  | p :: q :: l, _, h => by
    rw [joinS_cons2, cut_at _ _ (h p (by simp)), cut_joinS (q :: l) (by simp) (fun x hx => h x (by simp [hx]))]
    rfl
theorem pieces_joinS (l : List ByteArray) (h0 : l ≠ []) (h : ∀ p ∈ l, (47 : UInt8) ∉ p.data.toList) : pieces (mkB (joinS l)) = l := by
  rw [pieces_eq, data_mkB, cut_joinS l h0 h, List.map_map]
  conv => rhs; rw [← List.map_id l]
  exact List.map_congr_left (fun x _ => mkB_data x)
theorem pieces_mem (s p : ByteArray) (h : p ∈ pieces s) : (47 : UInt8) ∉ p.data.toList := by
  rw [pieces_eq] at h
  obtain ⟨x, hx, rfl⟩ := List.mem_map.1 h
  rw [data_mkB]
  exact cut_mem _ _ hx
theorem joinS_cut : ∀ l : List UInt8, Lib.join (cut l) [47] = l := by
  intro l
  induction l with
  | nil => rfl
  | cons b l ih =>
    unfold cut
    split
    · rename_i hb
      subst hb
      cases hc : cut l with
      | nil => exact absurd hc (cut_ne l)
      | cons p r =>
        rw [hc, Lib.join_cons] at ih
        rw [Lib.join_cons]
        simp only [Lib.joinTail, List.map_cons, List.flatten_cons, List.nil_append]
        conv => rhs; rw [← ih]
        simp [Lib.joinTail]
    · split
      · rename_i e
        exact absurd e (cut_ne l)
      · rename_i p r e
        rw [e, Lib.join_cons] at ih
        rw [Lib.join_cons, List.cons_append, ih]
theorem joinS_pieces (s : ByteArray) : joinS (pieces s) = s.data.toList := by
  unfold joinS
  rw [pieces_cut, joinS_cut]

/-- A step of Clean. -/
def up2 (p : ByteArray) : Bool := p.toList == [46, 46]
def redStep (r : Bool) (q : List ByteArray) (p : ByteArray) : List ByteArray :=
  if up2 p = false then q ++ [p] else
    match q.getLast? with
    | some l => if up2 l = false then q.dropLast else if r then q else q ++ [p]
    | none => if r then q else q ++ [p]
def reduce (r : Bool) (l : List ByteArray) : List ByteArray := l.foldl (redStep r) []
theorem reduce_step (r : Bool) (l : List ByteArray) (k : Nat) (p : ByteArray) (h : l[k]? = some p) : reduce r (l.take (k + 1)) = redStep r (reduce r (l.take k)) p := by
  unfold reduce
  rw [List.take_add_one, h, List.foldl_append]
  rfl
theorem redStep_length (r : Bool) (q : List ByteArray) (p : ByteArray) : (redStep r q p).length ≤ q.length + 1 := by
  unfold redStep
  repeat' split
  all_goals simp
  all_goals omega
theorem redStep_mem (r : Bool) (q : List ByteArray) (p x : ByteArray) (h : x ∈ redStep r q p) : x ∈ q ∨ x = p := by
  unfold redStep at h
  repeat' split at h
  all_goals first | (simp only [List.mem_append, List.mem_singleton] at h; exact h) | exact Or.inl (List.dropLast_subset _ h) | exact Or.inl h
theorem reduce_length (r : Bool) (l : List ByteArray) (k : Nat) : (reduce r (l.take k)).length ≤ k := by
  induction k with
  | zero => simp [reduce]
  | succ k ih =>
    cases hp : l[k]? with
    | none =>
      rw [List.take_add_one, hp]
      simp
      omega
    | some p =>
      rw [reduce_step r l k p hp]
      have := redStep_length r (reduce r (l.take k)) p
      omega
theorem foldl_red_mem (r : Bool) : ∀ (l q : List ByteArray) (x : ByteArray), x ∈ l.foldl (redStep r) q → x ∈ q ∨ x ∈ l
  | [], q, x, h => Or.inl h
  | p :: l, q, x, h => by
    rcases foldl_red_mem r l _ x h with h | h
    · rcases redStep_mem r q p x h with h | rfl
      · exact Or.inl h
      · exact Or.inr (by simp)
    · exact Or.inr (by simp [h])
theorem reduce_mem (r : Bool) (l : List ByteArray) (x : ByteArray) (h : x ∈ reduce r l) : x ∈ l := by
  rcases foldl_red_mem r l [] x h with h | h
  · cases h
  · exact h
theorem redStep_sub (r : Bool) (q : List ByteArray) (p : ByteArray) : (redStep r q p).Sublist (q ++ [p]) := by
  unfold redStep
  repeat' split
  all_goals first | exact List.Sublist.refl _ | exact (List.dropLast_sublist _).trans (List.sublist_append_left _ _) | exact List.sublist_append_left _ _
theorem foldl_red_sub (r : Bool) : ∀ (l q a : List ByteArray), q.Sublist a → (l.foldl (redStep r) q).Sublist (a ++ l)
  | [], q, a, h => by simpa using h
  | p :: l, q, a, h => by
    have := foldl_red_sub r l (redStep r q p) (a ++ [p]) ((redStep_sub r q p).trans (List.Sublist.append h (List.Sublist.refl _)))
    simpa using this
theorem reduce_sub (r : Bool) (l : List ByteArray) : (reduce r l).Sublist l := foldl_red_sub r l [] [] (List.Sublist.refl _)
def lenJ (l : List ByteArray) : Nat := (l.map fun p => p.size + 1).sum
theorem lenJ_join : ∀ (l : List ByteArray), l ≠ [] → lenJ l = (joinS l).length + 1
  | [], h => absurd rfl h
  | [p], _ => by rw [joinS_one]; simp [lenJ]
  | p :: q :: l, _ => by
    have := lenJ_join (q :: l) (by simp)
    rw [joinS_cons2, List.length_append, List.length_cons]
    have e : lenJ (p :: q :: l) = p.size + 1 + lenJ (q :: l) := by simp [lenJ]
    rw [e, this]
    simp
    omega
theorem joinS_len (l : List ByteArray) : (joinS l).length ≤ lenJ l := by
  cases l with
  | nil => exact Nat.zero_le _
  | cons p l => rw [lenJ_join (p :: l) (by simp)]; omega
theorem lenJ_sub {a b : List ByteArray} (h : a.Sublist b) : lenJ a ≤ lenJ b := by
  induction h with
  | slnil => exact Nat.le_refl _
  | cons x _ ih => simp only [lenJ, List.map_cons, List.sum_cons] at ih ⊢; omega
  | cons_cons x _ ih => simp only [lenJ, List.map_cons, List.sum_cons] at ih ⊢; omega
theorem pieces_ne (s : ByteArray) : pieces s ≠ [] := by
  rw [pieces_eq]
  intro h
  exact cut_ne _ (List.map_eq_nil_iff.1 h)
theorem lenJ_pieces (s : ByteArray) : lenJ (pieces s) = s.size + 1 := by
  rw [lenJ_join _ (pieces_ne s), joinS_pieces]
  simp
theorem clean_len (r : Bool) (s : ByteArray) : (joinS (reduce r (kept (pieces s)))).length ≤ s.size + 1 := by
  refine Nat.le_trans (joinS_len _) ?_
  rw [← lenJ_pieces]
  exact lenJ_sub ((reduce_sub r _).trans List.filter_sublist)
/-- The path name of parts. -/
def joinP (r : Bool) (l : List ByteArray) : ByteArray :=
  if r then mkB (47 :: joinS l) else if l.isEmpty then ⟨#[46]⟩ else mkB (joinS l)
def rootedB (s : ByteArray) : Bool := Lib.hasPrefix s.data.toList [47]
/-- The clean path name, if the pieces are fine. -/
def cleanB (s : ByteArray) : ByteArray := joinP (rootedB s) (reduce (rootedB s) (kept (pieces s)))
end Go.Proofs.YtmcekhgmmocajaaGreatDoor
