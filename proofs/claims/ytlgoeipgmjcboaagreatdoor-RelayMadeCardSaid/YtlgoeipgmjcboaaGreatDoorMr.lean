/- msg.kinds: the table of the kinds. | msg.rowOf: the row of a kind; msg.Answer. -/
import Derived.Test.YtlgoeipgmjcboaaGreatDoorMb
namespace Go.Proofs.YtlgoeipgmjcboaaGreatDoor
open Go.RowKit Me

abbrev KRow := Nat × ByteArray × List Nat × Option Nat
def kindTab : List KRow := [(100, ⟨#[84, 118, 101, 114, 115, 105, 111, 110]⟩, [0, 1], some 0),
  (101, ⟨#[82, 118, 101, 114, 115, 105, 111, 110]⟩, [0, 1], some 1),
  (102, ⟨#[84, 97, 117, 116, 104]⟩, [2, 3, 4], some 2),
  (103, ⟨#[82, 97, 117, 116, 104]⟩, [11], some 3),
  (104, ⟨#[84, 97, 116, 116, 97, 99, 104]⟩, [7, 2, 3, 4], some 4),
  (105, ⟨#[82, 97, 116, 116, 97, 99, 104]⟩, [11], some 5),
  (107, ⟨#[82, 101, 114, 114, 111, 114]⟩, [5], some 6),
  (108, ⟨#[84, 102, 108, 117, 115, 104]⟩, [6], some 7),
  (109, ⟨#[82, 102, 108, 117, 115, 104]⟩, [], none),
  (110, ⟨#[84, 119, 97, 108, 107]⟩, [7, 8, 9], some 8),
  (111, ⟨#[82, 119, 97, 108, 107]⟩, [10], some 9),
  (112, ⟨#[84, 111, 112, 101, 110]⟩, [7, 12], some 10),
  (113, ⟨#[82, 111, 112, 101, 110]⟩, [11, 13], some 11),
  (114, ⟨#[84, 99, 114, 101, 97, 116, 101]⟩, [7, 14, 15, 12], some 12),
  (115, ⟨#[82, 99, 114, 101, 97, 116, 101]⟩, [11, 13], some 13),
  (116, ⟨#[84, 114, 101, 97, 100]⟩, [7, 16, 17], some 14),
  (117, ⟨#[82, 114, 101, 97, 100]⟩, [18], some 15),
  (118, ⟨#[84, 119, 114, 105, 116, 101]⟩, [7, 16, 18], some 16),
  (119, ⟨#[82, 119, 114, 105, 116, 101]⟩, [17], some 17),
  (120, ⟨#[84, 99, 108, 117, 110, 107]⟩, [7], some 18),
  (121, ⟨#[82, 99, 108, 117, 110, 107]⟩, [], none),
  (122, ⟨#[84, 114, 101, 109, 111, 118, 101]⟩, [7], some 19),
  (123, ⟨#[82, 114, 101, 109, 111, 118, 101]⟩, [], none),
  (124, ⟨#[84, 115, 116, 97, 116]⟩, [7], some 20),
  (125, ⟨#[82, 115, 116, 97, 116]⟩, [19], some 21),
  (126, ⟨#[84, 119, 115, 116, 97, 116]⟩, [7, 19], some 22),
  (127, ⟨#[82, 119, 115, 116, 97, 116]⟩, [], none)]
def kindRows : List (List Nat) := [[0, 1], [0, 1], [2, 3, 4], [11], [7, 2, 3, 4], [11], [5], [6], [7, 8, 9], [10], [7, 12], [11, 13], [7, 14, 15, 12], [11, 13], [7, 16, 17], [18], [7, 16, 18], [17], [7], [7], [7], [19], [7, 19]]
def u8V (n : Nat) : Value := .int .u8 (n : Int)
def kindV (B : Nat) (r : KRow) : Value := match r.2.2.2 with | none => .slice none 0 0 | some j => .slice (some ⟨B + j, 0, none⟩) r.2.2.1.length r.2.2.1.length
def kindC (B : Nat) (r : KRow) : List Value := [u8V r.1, .string r.2.1, kindV B r]
theorem flat3 {α : Type} (f : α → List Value) (hf : ∀ r, (f r).length = 3) : ∀ (L : List α) (i k : Nat), k < 3 → (L.flatMap f)[i * 3 + k]? = (L[i]?).bind fun r => (f r)[k]?
  | [], i, k, _ => by simp
  | r :: L, 0, k, hk => by
    rw [List.flatMap_cons, List.getElem?_append_left (by rw [hf]; omega)]
    simp
  | r :: L, i + 1, k, hk => by
    rw [List.flatMap_cons, List.getElem?_append_right (by rw [hf]; omega), hf, show (i + 1) * 3 + k - 3 = i * 3 + k by omega, flat3 f hf L i k hk]
    simp
theorem kind_rows : (kindTab.all fun r => match r.2.2.2 with | none => r.2.2.1.isEmpty | some j => decide (kindRows[j]? = some r.2.2.1)) = true := by decide +kernel
theorem kind_names : ∀ r ∈ kindTab, r.2.1.data[0]? = some (if r.1 % 2 = 0 then 84 else 82) := by decide +kernel
theorem kind_find : ∀ k, k < 256 → fieldsOf k = (kindTab.find? fun r => r.1 = k).map fun r => r.2.2.1 := by decide +kernel
def allocs (w : World) (l : List Obj) : World := l.foldl World.alloc w
theorem allocs_mods (l : List Obj) : ∀ w, Mods [] w (allocs w l) := by
  induction l with
  | nil => exact fun w => Mods.refl _ _
  | cons o l ih => exact fun w => ((Mods.refl [] w).alloc o).trans (ih _) (by simp)
theorem allocs_size (l : List Obj) : ∀ w : World, (allocs w l).heap.size = w.heap.size + l.length := by
  induction l with
  | nil => exact fun w => rfl
  | cons o l ih => intro w; show (allocs (w.alloc o) l).heap.size = _; rw [ih]; simp; omega
theorem allocs_heap (l : List Obj) : ∀ (w : World) (j : Nat) (o : Obj), l[j]? = some o → (allocs w l).heap[w.heap.size + j]? = some o := by
  induction l with
  | nil => intro w j o h; simp at h
  | cons x l ih =>
    intro w j o h
    cases j with
    | zero =>
      simp only [List.getElem?_cons_zero, Option.some.injEq] at h
      subst h
      exact (allocs_mods l (w.alloc x)).heap (heap_alloc_new w x) (by simp)
    | succ j =>
      have := ih (w.alloc x) j o (by simpa using h)
      show (allocs (w.alloc x) l).heap[w.heap.size + (j + 1)]? = _
      rw [show w.heap.size + (j + 1) = (w.alloc x).heap.size + j by simp; omega]
      exact this
def kindObjs : List Obj := kindRows.map fun l => .cells (l.map u8V).toArray 152
/-- The table of the kinds, in memory. -/
structure Kinds (w : World) (b B : Nat) : Prop where
  row : w.heap[b]? = some (.cells (kindTab.flatMap (kindC B)).toArray 143 (0, 0))
  fields : ∀ j l, kindRows[j]? = some l → w.heap[B + j]? = some (.cells (l.map u8V).toArray 152 (0, 0))
set_option maxHeartbeats 4000000 in
set_option maxRecDepth 100000 in
theorem kinds_any (w : World) : Calls Tryz.prog 96 #[] w fun e w' => ∃ b, e = .returned (.slice (some ⟨b, 0, none⟩) 27 27) ∧ Mods [] w w' ∧ Kinds w' b w.heap.size := by
  have hK : Kinds ((allocs w kindObjs).alloc (.cells (kindTab.flatMap (kindC w.heap.size)).toArray 143)) (w.heap.size + 23) w.heap.size := by
    refine ⟨?_, fun j l hl => ?_⟩
    · have := heap_alloc_new (allocs w kindObjs) (.cells (kindTab.flatMap (kindC w.heap.size)).toArray 143)
      rwa [allocs_size] at this
    · exact ((Mods.refl [] _).alloc _).heap (allocs_heap kindObjs w j _ (by rw [kindObjs, List.getElem?_map, hl]; rfl)) (by simp)
  have hm : Mods [] w ((allocs w kindObjs).alloc (.cells (kindTab.flatMap (kindC w.heap.size)).toArray 143)) := (allocs_mods kindObjs w).alloc _
  have HK := Lib.hid hK
  have HM := Lib.hid hm
  clear hK hm
  go_enter Tryz.func96, Tryz.ntmps96
  go_wp2_with fail
  go_ret
  exact ⟨_, rfl, HM.out, HK.out⟩
theorem Kinds.mods {w w' : World} {b B : Nat} (h : Kinds w b B) (hm : Mods [] w w') : Kinds w' b B := ⟨hm.heap h.row (by simp), fun j l hl => hm.heap (h.fields j l hl) (by simp)⟩
theorem Kinds.cell {w : World} {b B : Nat} (h : Kinds w b B) {i : Nat} {r : KRow} (hr : kindTab[i]? = some r) (k : Nat) (hk : k < 3) : w.cell? ⟨b, i * 3 + k, none⟩ = (kindC B r)[k]? := by
  rw [cell_of_row _ _ _ _ _ _ h.row]
  simp only [List.getElem?_toArray]
  rw [flat3 (kindC B) (fun r => rfl) kindTab i k hk, hr]
  rfl
theorem Kinds.read {w : World} {b B : Nat} (h : Kinds w b B) {r : KRow} (hr : r ∈ kindTab) : Rd w (kindV B r) (r.2.2.1.map u8V) := by
  have h1 := List.all_eq_true.1 kind_rows r hr
  unfold kindV
  cases e : r.2.2.2 with
  | none =>
    rw [e] at h1
    simp only at h1 ⊢
    rw [List.isEmpty_iff.1 h1]
    exact ⟨none, 0, rfl, by simp, by decide, by simp⟩
  | some j =>
    rw [e] at h1
    simp only [decide_eq_true_eq] at h1 ⊢
    refine ⟨_, _, by rw [List.length_map], by simp, ?_, fun i u hu => ⟨B + j, 0, rfl, ?_⟩⟩
    · have : (kindTab.all fun r => decide (r.2.2.1.length ≤ 4)) = true := by decide +kernel
      have := List.all_eq_true.1 this r hr
      simp only [decide_eq_true_eq] at this
      unfold maxLen
      omega
    · rw [cell_of_row _ _ _ _ _ _ (h.fields j _ h1)]
      simpa using hu
theorem kinds_lt : ∀ r ∈ kindTab, r.1 < 256 := by decide
end Go.Proofs.YtlgoeipgmjcboaaGreatDoor
namespace Go.Proofs.YtlgoeipgmjcboaaGreatDoor
open Go.RowKit Me

theorem find_take {α : Type} (p : α → Bool) : ∀ (L : List α) (j : Nat) (r : α), L[j]? = some r → p r = true → (∀ x ∈ L.take j, p x = false) → L.find? p = some r
  | [], _, _, h, _, _ => by simp at h
  | x :: L, 0, r, h, hp, _ => by
    simp only [List.getElem?_cons_zero, Option.some.injEq] at h
    rw [h, List.find?_cons_of_pos hp]
  | x :: L, j + 1, r, h, hp, hn => by
    rw [List.find?_cons_of_neg (by rw [hn x (by simp)]; simp)]
    exact find_take p L j r (by simpa using h) hp (fun y hy => hn y (by rw [List.take_succ_cons]; exact List.mem_cons_of_mem _ hy))
theorem Kinds.own {w : World} {b B : Nat} (h : Kinds w b B) {r : KRow} (hr : r ∈ kindTab) : ∀ q, (kindV B r).ownBlock = some q → ∃ cs, w.heap[q]? = some (.cells cs 152 (0, 0)) := by
  intro q hq
  have h1 := List.all_eq_true.1 kind_rows r hr
  unfold kindV at hq
  cases e : r.2.2.2 with
  | none => rw [e] at hq; simp [Value.ownBlock] at hq
  | some j =>
    rw [e] at h1 hq
    simp only [decide_eq_true_eq] at h1
    simp only [Value.ownBlock, Option.some.injEq] at hq
    subst hq
    exact ⟨_, h.fields j _ h1⟩
/-- The first letter of a kind's name. -/
def letterOf (k : Nat) : UInt8 := if k % 2 = 0 then 84 else 82
set_option maxHeartbeats 1000000 in
/-- msg.rowOf: the kind's row. -/
theorem rowOf_any (k : Nat) (hk : k < 256) (w : World) :
    Calls Tryz.prog 70 #[.int .u8 (k : Int)] w fun e w' => ∃ kv nm vA vn vc, e = .returned (.tuple #[.agg #[.int .u8 kv, .string nm, .slice vA vn vc], .bool (fieldsOf k).isSome]) ∧ Mods [] w w' ∧
      ∀ l, fieldsOf k = some l → Rd w' (.slice vA vn vc) (l.map u8V) ∧ nm.data[0]? = some (letterOf k) := by
  have HF := Lib.hid (kind_find k hk)
  go_enter Tryz.func70, Tryz.ntmps70
  go_wp2_with fail
  refine (kinds_any _).mono ?_; rintro e w1 ⟨b, rfl, hm, hK⟩
  have HM := Lib.hid ((((Mods.refl [] w).alloc (.cells #[.int .u8 0, .string ⟨#[]⟩, .slice none 0 0] 143))).trans hm (by simp))
  have hrow := hm.heap (heap_alloc_new w (.cells #[.int .u8 0, .string ⟨#[]⟩, .slice none 0 0] 143)) (by simp)
  have HR := Lib.hid hrow
  have HKI := Lib.hid hK
  generalize (w.alloc (.cells #[.int .u8 0, .string ⟨#[]⟩, .slice none 0 0] 143)).heap.size = B at *
  clear hm hK hrow
  generalize hp : w.heap.size = p at *
  go_wp2_with fail
  go_loopw [8] (fun i wr => ∃ j : Nat, j ≤ 27 ∧ i = .int .i64 j ∧ (∀ r ∈ kindTab.take j, r.1 ≠ k) ∧ Mods [] w1 wr) (fun i _ => 27 - (intOf i).toNat)
  case atStart => exact ⟨0, by omega, rfl, by simp, Mods.refl _ _⟩
  case round =>
    obtain ⟨j, hj, rfl, hno, hm⟩ := hrel
    have HMR := Lib.hid hm
    rcases Nat.lt_or_ge j 27 with hlt | hge
    · obtain ⟨r, hs⟩ : ∃ r, kindTab[j]? = some r := ⟨_, List.getElem?_eq_getElem (by simpa [kindTab] using hlt)⟩
      have hK := HKI.out.mods hm
      have c0 := hK.cell hs 0 (by omega)
      have c1 := hK.cell hs 1 (by omega)
      have c2 := hK.cell hs 2 (by omega)
      simp only [kindC, List.getElem?_cons_zero, List.getElem?_cons_succ, u8V, Nat.add_zero] at c0 c1 c2
      have hr := List.mem_of_getElem? hs
      have HRD := Lib.hid (hK.read hr)
      have hr8 := kinds_lt r hr
      have HOB : Hid (∀ q, (kindV B r).ownBlock = some q → q ≠ p) := Lib.hid (fun q hq e => by
        obtain ⟨cs, hcs⟩ := hK.own hr q hq
        rw [e, hm.heap HR.out (by simp)] at hcs
        cases hcs)
      have HS := Lib.hid hs
      have HNO := Lib.hid hno
      clear hm hK hs hno hr
      obtain ⟨kd, nm, fl, ix⟩ := r
      simp only at c0 c1 c2 hr8
      generalize hv : kindV B (kd, nm, fl, ix) = v at *
      clear hv
      obtain ⟨vA, vc, rfl⟩ := Rd.slice HRD.out
      have hr2 := HMR.out.heap HR.out (by simp)
      have ha2 : ∀ o, (wr.alloc o).heap[p]? = some (.cells #[.int .u8 0, .string ⟨#[]⟩, .slice none 0 0] 143 (0, 0)) := fun o => ((Mods.refl [] wr).alloc o).heap hr2 (by simp)
      have d0 : ∀ o, (wr.alloc o).cell? ⟨p, 0, none⟩ = some (.int .u8 0) := fun o => by rw [cell_of_row _ _ _ _ _ _ (ha2 o)]; rfl
      have d1 : ∀ o, (wr.alloc o).cell? ⟨p, 1, none⟩ = some (.string ⟨#[]⟩) := fun o => by rw [cell_of_row _ _ _ _ _ _ (ha2 o)]; rfl
      have d2 : ∀ o, (wr.alloc o).cell? ⟨p, 2, none⟩ = some (.slice none 0 0) := fun o => by rw [cell_of_row _ _ _ _ _ _ (ha2 o)]; rfl
      have f0 : ∀ o, (wr.alloc o).frozen? ⟨p, 0, none⟩ = false := fun o => frozen_of_row _ _ _ _ _ (ha2 o)
      have f1 : ∀ o, (wr.alloc o).frozen? ⟨p, 1, none⟩ = false := fun o => frozen_of_row _ _ _ _ _ (ha2 o)
      have f2 : ∀ o, (wr.alloc o).frozen? ⟨p, 2, none⟩ = false := fun o => frozen_of_row _ _ _ _ _ (ha2 o)
      clear ha2
      clear hr2
      by_cases e : kd = k
      · subst e
        have hfo : fieldsOf kd = some fl := by
          rw [HF.out, find_take _ kindTab j _ HS.out (by simp) (fun x hx => by simpa using HNO.out x hx)]
          rfl
        have HFO := Lib.hid hfo
        have HNM := Lib.hid (kind_names _ (List.mem_of_getElem? HS.out))
        clear hfo HF
        go_wp2_with fail
        refine bodyPost_ret (v := .tuple #[.agg #[.int .u8 (kd : Int), .string nm, .slice vA fl.length vc], .bool true]) (by simp [results, Tryz.results70, go_sem, d0, d1, d2]) rfl ?_
        have hmw : Mods [] w (((((wr.alloc (.cells #[.int .u8 (kd : Int), .string nm, .slice vA fl.length vc] 143)).setCell ⟨p, 0, none⟩ (.int .u8 (kd : Int))).setCell ⟨p, 1, none⟩ (.string nm))).setCell ⟨p, 2, none⟩ (.slice vA fl.length vc)) :=
          ((((HM.out.trans HMR.out (by simp)).alloc _).setCell (Or.inr (by show w.heap.size ≤ p; omega)) _).setCell (Or.inr (by show w.heap.size ≤ p; omega)) _).setCell (Or.inr (by show w.heap.size ≤ p; omega)) _
        have hmr : Mods [p] wr (((((wr.alloc (.cells #[.int .u8 (kd : Int), .string nm, .slice vA fl.length vc] 143)).setCell ⟨p, 0, none⟩ (.int .u8 (kd : Int))).setCell ⟨p, 1, none⟩ (.string nm))).setCell ⟨p, 2, none⟩ (.slice vA fl.length vc)) :=
          (((((Mods.refl [p] wr).alloc _).setCell (Or.inl (by simp)) _).setCell (Or.inl (by simp)) _).setCell (Or.inl (by simp)) _)
        refine ⟨_, _, _, _, _, by rw [HFO.out]; rfl, hmw, fun l hl => ?_⟩
        rw [HFO.out] at hl
        obtain rfl := Option.some.inj hl
        have hrd := HRD.out.mods hmr (fun q hq => by simpa using HOB.out q hq)
        rw [List.length_map] at hrd
        exact ⟨hrd, HNM.out⟩
      · have e' : ¬ ((kd : Int) = (k : Int)) := by omega
        go_wp2_with fail
        refine ⟨⟨j + 1, by omega, by simp, ?_, HMR.out.alloc _⟩, by simp [intOf]; omega⟩
        intro r hr
        rw [List.take_add_one, HS.out] at hr
        rcases List.mem_append.1 hr with hr | hr
        · exact HNO.out r hr
        · simp at hr
          subst hr
          exact e
    · have hr2 := HMR.out.heap HR.out (by simp)
      have d0 : wr.cell? ⟨p, 0, none⟩ = some (.int .u8 0) := by rw [cell_of_row _ _ _ _ _ _ hr2]; rfl
      have d1 : wr.cell? ⟨p, 1, none⟩ = some (.string ⟨#[]⟩) := by rw [cell_of_row _ _ _ _ _ _ hr2]; rfl
      have d2 : wr.cell? ⟨p, 2, none⟩ = some (.slice none 0 0) := by rw [cell_of_row _ _ _ _ _ _ hr2]; rfl
      have f0 : wr.frozen? ⟨p, 0, none⟩ = false := frozen_of_row _ _ _ _ _ hr2
      have f1 : wr.frozen? ⟨p, 1, none⟩ = false := frozen_of_row _ _ _ _ _ hr2
      have f2 : wr.frozen? ⟨p, 2, none⟩ = false := frozen_of_row _ _ _ _ _ hr2
      have hfo : fieldsOf k = none := by
        rw [HF.out, List.find?_eq_none.2 (fun r hr => by simpa using hno r (by rw [List.take_of_length_le (by simp [kindTab]; omega)]; exact hr))]
        rfl
      have HFO := Lib.hid hfo
      clear hfo HF hr2 hno hm
      go_wp2_with fail
      refine bodyPost_ret (v := .tuple #[.agg #[.int .u8 0, .string ⟨#[]⟩, .slice none 0 0], .bool false]) (by simp [results, Tryz.results70, go_sem, d0, d1, d2]) rfl ?_
      refine ⟨_, _, _, _, _, by rw [HFO.out]; rfl, ?_, fun l hl => by rw [HFO.out] at hl; cases hl⟩
      exact (((HM.out.trans HMR.out (by simp)).setCell (Or.inr (by show w.heap.size ≤ p; omega)) _).setCell (Or.inr (by show w.heap.size ≤ p; omega)) _).setCell (Or.inr (by show w.heap.size ≤ p; omega)) _
theorem answer_some (k : Nat) (l : List Nat) (h : fieldsOf k = some l) : answerK k = if letterOf k = 84 then some (k + 1) else none := by
  unfold answerK letterOf
  rw [h]
  by_cases e : k % 2 = 0 <;> simp [e]
set_option maxHeartbeats 1000000 in
/-- msg.Answer: the kind that answers a request. -/
theorem answer_any (k : Nat) (hk : k < 256) (w : World) :
    Calls Tryz.prog 42 #[.int .u8 (k : Int)] w fun e w' => e = .returned (.tuple #[.int .u8 (((answerK k).getD 0 : Nat) : Int), .bool (answerK k).isSome]) ∧ Mods [] w w' := by
  have HR := Lib.hid (rowOf_any k hk w)
  go_enter Tryz.func42, Tryz.ntmps42
  go_wp2_with fail
  refine HR.out.mono ?_; rintro e w1 ⟨kv, nm, vA, vn, vc, rfl, hm, hf⟩
  have HM := Lib.hid hm
  have HF := Lib.hid hf
  clear hm hf
  clear HR
  cases h : fieldsOf k with
  | none =>
    have ha : Hid (answerK k = none) := Lib.hid (by unfold answerK; rw [h]; rfl)
    clear h HF
    go_wp2_with fail
    go_ret2
    exact ⟨by rw [ha.out]; rfl, HM.out.alloc _⟩
  | some l =>
    obtain ⟨-, hn⟩ := HF.out l h
    have HA := Lib.hid (answer_some k l h)
    have h0 : 0 < nm.size := by
      have := Array.getElem?_eq_some_iff.1 hn
      exact this.1
    have hx : nm[0] = letterOf k := by
      have := Array.getElem?_eq_some_iff.1 hn
      exact this.2
    have hl : letterOf k = 84 ∨ letterOf k = 82 := by unfold letterOf; split <;> simp
    have HL : Hid (letterOf k = 84 → k % 2 = 0) := Lib.hid (fun e => by
      unfold letterOf at e
      by_cases h2 : k % 2 = 0
      · exact h2
      · rw [if_neg h2] at e
        exact absurd e (by decide))
    clear HF hn h
    rcases hl with e | e
    · rw [e] at hx
      have hb : ((nm[0].toNat : Nat) : Int) = 84 := by rw [hx]; rfl
      have HK2 := Lib.hid (HL.out e)
      have HE := Lib.hid e
      clear hx e
      go_wp2_with fail
      go_ret2
      refine ⟨?_, HM.out.alloc _⟩
      rw [HA.out, if_pos HE.out]
      have := HK2.out
      simp
      omega
    · rw [e] at hx
      have hb : ((nm[0].toNat : Nat) : Int) = 82 := by rw [hx]; rfl
      have HE := Lib.hid e
      clear hx e
      go_wp2_with fail
      go_ret2
      refine ⟨?_, HM.out.alloc _⟩
      rw [HA.out, if_neg (by rw [HE.out]; decide)]
      rfl
end Go.Proofs.YtlgoeipgmjcboaaGreatDoor
