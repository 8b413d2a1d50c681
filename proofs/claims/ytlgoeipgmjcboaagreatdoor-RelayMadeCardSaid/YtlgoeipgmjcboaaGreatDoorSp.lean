/- stat.PutQid. | stat.Size, stat.Put. -/
import Derived.Test.YtlgoeipgmjcboaaGreatDoorWa
import Derived.Test.YtlgoeipgmjcboaaGreatDoorMs
namespace Go.Proofs.YtlgoeipgmjcboaaGreatDoor
open Go.RowKit Me

theorem wrap_u64_big (n : Nat) (h : n < 18446744073709551616) : IntKind.u64.wrap (n : Int) = (n : Int) := by
  rw [IntKind.wrap_u64]
  omega
def qidV (q : QidP) : Array Value := #[.int .u8 (q.kind : Int), .int .u32 (q.vers : Int), .int .u64 (q.path : Int)]
set_option maxHeartbeats 1000000 in
theorem putQid_any {a : Nat} {S : WSt} {vb vo : Value} {w : World} (h : IsW 195 w a S vb vo) (q : QidP) (hq : q.Fits) :
    Calls Tryz.prog 175 #[.pointer (some ⟨a, 0, none⟩), .agg (qidV q)] w fun e w' => e = .returned (.tuple #[]) ∧ WPost 195 w a vb vo (S.qid q) w' := by
  obtain ⟨kind, vers, path⟩ := q
  obtain ⟨h1, h2, h3⟩ := hq
  simp only at h1 h2 h3
  have W0 := Lib.hid ((WAt.start h).alloc (.cells #[.int .u8 (kind : Int), .int .u32 (vers : Int), .int .u64 (path : Int)] 42))
  have R0 := Lib.hid (heap_alloc_new w (.cells #[.int .u8 (kind : Int), .int .u32 (vers : Int), .int .u64 (path : Int)] 42))
  have HP := Lib.hid (wrap_u64_big path h3)
  clear h h3
  simp only [qidV, WSt.qid]
  go_enter Tryz.func175, Tryz.ntmps175
  go_wp2_with fail
  refine (W0.out.call (fun _ _ h => u8_any h kind (by omega))).mono ?_; rintro e w1 ⟨rfl, hw, hk⟩
  have r1 := (hk _ (Or.inr rfl)).trans R0.out
  have W1 := Lib.hid hw
  have R1 := Lib.hid r1
  have d1 : w1.cell? ⟨w.heap.size, 1, none⟩ = some (.int .u32 (vers : Int)) := by rw [cell_of_row _ _ _ _ _ _ r1]; rfl
  clear hw hk r1
  go_wp2_with fail
  refine (W1.out.call (fun _ _ h => u32_any h vers h2)).mono ?_; rintro e w2 ⟨rfl, hw, hk⟩
  have r2 := (hk _ (Or.inr rfl)).trans R1.out
  have W2 := Lib.hid hw
  have d2 : w2.cell? ⟨w.heap.size, 2, none⟩ = some (.int .u64 (path : Int)) := by rw [cell_of_row _ _ _ _ _ _ r2]; rfl
  clear hw hk r2 d1
  go_wp2_with fail
  refine (W2.out.call (fun _ _ h => u64_any h path HP.out)).mono ?_; rintro e w3 ⟨rfl, hw, hk⟩
  have W3 := Lib.hid hw
  clear hw hk
  go_wp2_with fail
  go_end0
  exact ⟨rfl, W3.out.post⟩
end Go.Proofs.YtlgoeipgmjcboaaGreatDoor
namespace Go.Proofs.YtlgoeipgmjcboaaGreatDoor
open Go.RowKit Me

theorem tabs_heap {w w' : World} (h : ∀ k, k < 6 → w'.heap[k]? = w.heap[k]?) (hT : Lib.Utf8Tabs 4 5 w) : Lib.Utf8Tabs 4 5 w' :=
  ⟨fun c hc => (World.cell?_of_block (a := ⟨4, c, none⟩) (h 4 (by omega))).trans (hT.1 c hc),
   fun i hi => ⟨(World.cell?_of_block (a := ⟨5, 2 * i, none⟩) (h 5 (by omega))).trans (hT.2 i hi).1, (World.cell?_of_block (a := ⟨5, 2 * i + 1, none⟩) (h 5 (by omega))).trans (hT.2 i hi).2⟩⟩
theorem WAt.start2 {T : TypeId} {w : World} {a : Nat} {S : WSt} {vb vo : Value} (h : IsW T w a S vb vo) (hF : ∀ k ∈ foot a vb vo, 6 ≤ k) (hT : Lib.Utf8Tabs 4 5 w) : WAt T w a vb vo (fun k => k < 6) S w :=
  ⟨vb, vo, h, Mods.refl _ _, fun _ hk => Or.inl hk, fun k hk => ⟨by have := tabs_two hT; omega, fun hm => by have := hF k hm; omega⟩⟩
def statV (s : StatP) : Array Value := #[.int .u16 (s.typ : Int), .int .u32 (s.dev : Int), .int .u8 (s.qid.kind : Int), .int .u32 (s.qid.vers : Int), .int .u64 (s.qid.path : Int), .int .u32 (s.mode : Int),
  .int .u32 (s.atime : Int), .int .u32 (s.mtime : Int), .int .u64 (s.length : Int), .string s.name, .string s.uid, .string s.gid, .string s.muid]

theorem texts_size (s : StatP) (hz : s.size ≤ 600000000000000) : ∀ t ∈ s.texts, t.size ≤ maxLen := by
  intro t ht
  simp only [StatP.texts, List.mem_cons, List.not_mem_nil, or_false] at ht
  simp only [StatP.size] at hz
  unfold maxLen
  rcases ht with rfl | rfl | rfl | rfl <;> omega
theorem fold_take {α β : Type} (l : List α) (f : β → α → β) (S : β) {k : Nat} (hk : k < l.length) : (l.take (k + 1)).foldl f S = f ((l.take k).foldl f S) l[k] := by
  rw [List.take_succ_eq_append_getElem hk, List.foldl_append]
  rfl
def RelTexts (a : Nat) (w : World) (vb vo : Value) (S : WSt) (b c : Nat) (l : List ByteArray) (i : Value) (wr : World) : Prop :=
  ∃ k : Nat, k ≤ 4 ∧ i = .int .i64 k ∧ WAt 195 w a vb vo (fun k => ((k < 6) ∨ k = b) ∨ k = c) ((l.take k).foldl (fun S t => S.text t.data.toList) S) wr ∧ wr.heap[c]? = some (.cells (l.map Value.string).toArray 9 (0, 0)) ∧ Lib.Utf8Tabs 4 5 wr
def WSt.nums (S : WSt) (s : StatP) : WSt := ((((((S.opn.1.put (le s.typ 2)).put (le s.dev 4)).qid s.qid).put (le s.mode 4)).put (le s.atime 4)).put (le s.mtime 4)).put (le s.length 8)
theorem WSt.stat_eq (S : WSt) (s : StatP) : S.stat s = (s.texts.foldl (fun S t => S.text t.data.toList) (S.nums s)).shut S.opn.2 := by
  simp only [WSt.stat, WSt.nums, StatP.texts, List.foldl]
set_option maxRecDepth 100000 in
set_option maxHeartbeats 400000 in
theorem put_any {a : Nat} {S : WSt} {vb vo : Value} {w : World} (h : IsW 195 w a S vb vo) (hF : ∀ k ∈ foot a vb vo, 6 ≤ k) (hT : Lib.Utf8Tabs 4 5 w) (s : StatP) (hs : s.Fits) (hz : s.size ≤ 600000000000000) :
    Calls Tryz.prog 262 #[.pointer (some ⟨a, 0, none⟩), .agg (statV s)] w fun e w' => e = .returned (.tuple #[]) ∧ WPost 195 w a vb vo (S.stat s) w' := by
  have W0 := Lib.hid ((WAt.start2 h hF hT).alloc (.cells (statV s) 45))
  have R0 := Lib.hid (heap_alloc_new w (.cells (statV s) 45))
  have HT := Lib.hid hT
  have HQ := Lib.hid hs.qid
  have HP := Lib.hid (wrap_u64_big s.length hs.length)
  obtain ⟨g1, g2, -, g3, g4, g5, -⟩ := hs
  clear h hF hT
  rw [WSt.stat_eq]
  unfold WSt.nums
  have TA := Lib.hid (tabs_heap (w := w) (w' := w.alloc (.cells (statV s) 45)) (fun k h => Go.heap_alloc_old w _ (by have := tabs_two HT.out; omega)) HT.out)
  go_enter Tryz.func262, Tryz.ntmps262
  go_wp2_with fail
  generalize w.heap.size = b at *
  have T0 := TA
  clear TA
  refine (W0.out.call (fun _ _ h => open_any h)).mono ?_; rintro e w1 ⟨rfl, hw, hk⟩
  have r1 := (hk _ (Or.inr rfl)).trans R0.out
  have W1 := Lib.hid hw
  have R1 := Lib.hid r1
  have c0 : w1.cell? ⟨b, 0, none⟩ = some (.int .u16 (s.typ : Int)) := by rw [cell_of_row _ _ _ _ _ _ r1]; rfl
  have T1 := Lib.hid (tabs_heap (fun k h => (hk k (Or.inl h))) T0.out)
  clear hw hk r1 W0 R0 T0
  generalize hpl : S.opn.2 = place at *
  have HPL := Lib.hid hpl
  clear hpl
  go_wp2_with fail
  refine (W1.out.call (fun _ _ h => u16_any h s.typ (by omega))).mono ?_; rintro e w2 ⟨rfl, hw, hk⟩
  have r2 := (hk _ (Or.inr rfl)).trans R1.out
  have W2 := Lib.hid hw
  have R2 := Lib.hid r2
  have c1 : w2.cell? ⟨b, 1, none⟩ = some (.int .u32 (s.dev : Int)) := by rw [cell_of_row _ _ _ _ _ _ r2]; rfl
  have T2 := Lib.hid (tabs_heap (fun k h => (hk k (Or.inl h))) T1.out)
  clear hw hk r2 W1 R1 c0 T1
  go_wp2_with fail
  refine (W2.out.call (fun _ _ h => u32_any h s.dev (by omega))).mono ?_; rintro e w3 ⟨rfl, hw, hk⟩
  have r3 := (hk _ (Or.inr rfl)).trans R2.out
  have W3 := Lib.hid hw
  have R3 := Lib.hid r3
  have c2 : w3.cell? ⟨b, 2, none⟩ = some (.int .u8 (s.qid.kind : Int)) := by rw [cell_of_row _ _ _ _ _ _ r3]; rfl
  have c3 : w3.cell? ⟨b, 3, none⟩ = some (.int .u32 (s.qid.vers : Int)) := by rw [cell_of_row _ _ _ _ _ _ r3]; rfl
  have c4 : w3.cell? ⟨b, 4, none⟩ = some (.int .u64 (s.qid.path : Int)) := by rw [cell_of_row _ _ _ _ _ _ r3]; rfl
  have T3 := Lib.hid (tabs_heap (fun k h => (hk k (Or.inl h))) T2.out)
  clear hw hk r3 W2 R2 c1 T2
  go_wp2_with fail
  refine (W3.out.call (fun _ _ h => putQid_any h s.qid HQ.out)).mono ?_; rintro e w4 ⟨rfl, hw, hk⟩
  have r4 := (hk _ (Or.inr rfl)).trans R3.out
  have W4 := Lib.hid hw
  have R4 := Lib.hid r4
  have c5 : w4.cell? ⟨b, 5, none⟩ = some (.int .u32 (s.mode : Int)) := by rw [cell_of_row _ _ _ _ _ _ r4]; rfl
  have T4 := Lib.hid (tabs_heap (fun k h => (hk k (Or.inl h))) T3.out)
  clear hw hk r4 W3 R3 c2 c3 c4 T3
  go_wp2_with fail
  refine (W4.out.call (fun _ _ h => u32_any h s.mode (by omega))).mono ?_; rintro e w5 ⟨rfl, hw, hk⟩
  have r5 := (hk _ (Or.inr rfl)).trans R4.out
  have W5 := Lib.hid hw
  have R5 := Lib.hid r5
  have c6 : w5.cell? ⟨b, 6, none⟩ = some (.int .u32 (s.atime : Int)) := by rw [cell_of_row _ _ _ _ _ _ r5]; rfl
  have T5 := Lib.hid (tabs_heap (fun k h => (hk k (Or.inl h))) T4.out)
  clear hw hk r5 W4 R4 c5 T4
  go_wp2_with fail
  refine (W5.out.call (fun _ _ h => u32_any h s.atime (by omega))).mono ?_; rintro e w6 ⟨rfl, hw, hk⟩
  have r6 := (hk _ (Or.inr rfl)).trans R5.out
  have W6 := Lib.hid hw
  have R6 := Lib.hid r6
  have c7 : w6.cell? ⟨b, 7, none⟩ = some (.int .u32 (s.mtime : Int)) := by rw [cell_of_row _ _ _ _ _ _ r6]; rfl
  have T6 := Lib.hid (tabs_heap (fun k h => (hk k (Or.inl h))) T5.out)
  clear hw hk r6 W5 R5 c6 T5
  go_wp2_with fail
  refine (W6.out.call (fun _ _ h => u32_any h s.mtime (by omega))).mono ?_; rintro e w7 ⟨rfl, hw, hk⟩
  have r7 := (hk _ (Or.inr rfl)).trans R6.out
  have W7 := Lib.hid hw
  have R7 := Lib.hid r7
  have c8 : w7.cell? ⟨b, 8, none⟩ = some (.int .u64 (s.length : Int)) := by rw [cell_of_row _ _ _ _ _ _ r7]; rfl
  have T7 := Lib.hid (tabs_heap (fun k h => (hk k (Or.inl h))) T6.out)
  clear hw hk r7 W6 R6 c7 T6
  go_wp2_with fail
  refine (W7.out.call (fun _ _ h => u64_any h s.length HP.out)).mono ?_; rintro e w8 ⟨rfl, hw, hk⟩
  have r8 := (hk _ (Or.inr rfl)).trans R7.out
  have W8 := Lib.hid hw
  have R8 := Lib.hid r8
  have c9 : w8.cell? ⟨b, 9, none⟩ = some (.string s.name) := by rw [cell_of_row _ _ _ _ _ _ r8]; rfl
  have c10 : w8.cell? ⟨b, 10, none⟩ = some (.string s.uid) := by rw [cell_of_row _ _ _ _ _ _ r8]; rfl
  have c11 : w8.cell? ⟨b, 11, none⟩ = some (.string s.gid) := by rw [cell_of_row _ _ _ _ _ _ r8]; rfl
  have c12 : w8.cell? ⟨b, 12, none⟩ = some (.string s.muid) := by rw [cell_of_row _ _ _ _ _ _ r8]; rfl
  have T8 := Lib.hid (tabs_heap (fun k h => (hk k (Or.inl h))) T7.out)
  clear hw hk r8 W7 R7 c8 T7
  have W9 := Lib.hid (W8.out.alloc (.cells #[.string s.name, .string s.uid, .string s.gid, .string s.muid] 9))
  have R9 := Lib.hid (heap_alloc_new w8 (.cells #[.string s.name, .string s.uid, .string s.gid, .string s.muid] 9))
  have T9 := Lib.hid (tabs_heap (w := w8) (w' := w8.alloc (.cells #[.string s.name, .string s.uid, .string s.gid, .string s.muid] 9)) (fun k h => Go.heap_alloc_old w8 _ (by have := tabs_two T8.out; omega)) T8.out)
  clear R8 T8 W8
  go_wp2_with fail
  have hl4 : s.texts.length = 4 := rfl
  have HL := Lib.hid hl4
  clear hl4
  have HZ := Lib.hid (fun t (ht : t ∈ s.texts) => texts_size s hz t ht)
  generalize hcc : w8.heap.size = c at *
  clear hcc c9 c10 c11 c12
  have hlm : (#[.string s.name, .string s.uid, .string s.gid, .string s.muid] : Array Value) = (s.texts.map Value.string).toArray := rfl
  have HLM := Lib.hid hlm
  clear hlm
  generalize hll : s.texts = l at *
  have HLL := Lib.hid hll
  clear hll
  go_loopw [49] (fun i wr => RelTexts a w vb vo (S.nums s) b c l i wr) (fun i _ => 4 - (intOf i).toNat)
  case atStart => 
    refine ⟨0, by omega, rfl, ?_, ?_, T9.out⟩
    · rw [List.take_zero, List.foldl_nil]
      unfold WSt.nums
      exact W9.out
    · rw [← HLM.out]
      exact R9.out
  case round =>
    obtain ⟨k, hk, rfl, hw, hr, ht⟩ := hrel
    have HW := Lib.hid hw
    have HR := Lib.hid hr
    have HT' := Lib.hid ht
    clear hw hr ht W9 R9 T9
    rcases Nat.lt_or_ge k 4 with hlt | hge
    · have hlk : k < l.length := by have := HL.out; omega
      have hc0 : wr.cell? ⟨c, k, none⟩ = some (.string l[k]) := by rw [cell_of_row _ _ _ _ _ _ HR.out]; simp [hlk]
      have HF := Lib.hid (fold_take l (fun (S : WSt) t => S.text t.data.toList) (S.nums s) hlk)
      have HZk := Lib.hid (HZ.out l[k] (by simp))
      generalize l[k] = t at *
      go_wp2_with fail
      refine (HW.out.call (fun _ _ h => text_any h t HZk.out HT'.out)).mono ?_; rintro e w1 ⟨rfl, hw, hk⟩
      have R1 := Lib.hid ((hk _ (Or.inr rfl)).trans HR.out)
      have T1 := Lib.hid (tabs_heap (fun k h => (hk k (Or.inl (Or.inl h)))) HT'.out)
      rw [← HF.out] at hw
      have W1 := Lib.hid hw
      clear hw hk hc0
      go_wp2_with fail
      exact ⟨⟨k + 1, by omega, rfl, W1.out, R1.out, T1.out⟩, by simp only [intOf]; omega⟩
    · obtain rfl : k = 4 := by omega
      have hfin : (l.take 4).foldl (fun (S : WSt) t => S.text t.data.toList) (S.nums s) = l.foldl (fun (S : WSt) t => S.text t.data.toList) (S.nums s) := by rw [List.take_of_length_le (by have := HL.out; omega)]
      rw [hfin] at HW
      clear hfin
      generalize hx : l.foldl (fun (S : WSt) t => S.text t.data.toList) (S.nums s) = X at *
      have HX := Lib.hid hx
      clear hx
      generalize hpp : (place : Int) = q at *
      have HPP := Lib.hid hpp
      clear hpp
      go_wp2_with fail
      refine (HW.out.call (fun _ _ h => shut_any h q)).mono ?_; rintro e w1 ⟨rfl, hw, -⟩
      have W1 := Lib.hid hw
      clear hw
      go_wp2_with fail
      go_end0
      refine ⟨rfl, ?_⟩
      have := W1.out.post
      rw [← HX.out, ← HPP.out, ← HPL.out, ← HLL.out] at this
      exact this
end Go.Proofs.YtlgoeipgmjcboaaGreatDoor
