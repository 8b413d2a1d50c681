/- stat's asks, put, Keep. (Printed by wip/bin/genask.py.) | A large region whose operations but the last ones leave the world as it is: its order's check in parts. Over any program. | stat.Touched. (Printed by wip/bin/gentouch.py.) -/
import Derived.Test.YtnpokdbpmnkbjaaGreatDoorAw
import Derived.Test.YtnpokdbpmnkbjaaGreatDoorTo
import Derived.Laws.BitsAllLaws
import Derived.StillTailTactics
namespace Go.Proofs.YtnpokdbpmnkbjaaGreatDoor
open Go.RowKit Me

theorem nat_ne {a b : Nat} (h : a ≠ b) : ((a : Int) != (b : Int)) = true := by rw [bne_iff_ne]; omega
theorem nat_ne_self (a : Nat) : ((a : Int) != (a : Int)) = false := by simp
theorem asks_u16 (a k h : Nat) (w : World) : Calls Tryz.prog 80 #[.int .u16 (a : Int), .int .u16 (k : Int), .int .u16 (h : Int)] w fun e w' => e = .returned (.bool (askN a k h)) ∧ w = w' := by
  by_cases h1 : a = k
  · subst h1
    rw [askN_self]
    have b1 := nat_ne_self a
    generalize (a : Int) = x at *
    go_enter Tryz.func80, Tryz.ntmps80
    go_wp2_with fail
    go_ret
    exact ⟨rfl, rfl⟩
  · have b1 := nat_ne h1
    by_cases h2 : a = h
    · subst h2
      rw [askN_same]
      have b2 := nat_ne_self a
      clear h1
      generalize (a : Int) = x at *
      generalize (k : Int) = y at *
      go_enter Tryz.func80, Tryz.ntmps80
      go_wp2_with fail
      go_ret
      exact ⟨rfl, rfl⟩
    · have b2 := nat_ne h2
      rw [show askN a k h = true by simp [askN, h1, h2]]
      clear h1 h2
      generalize (a : Int) = x at *
      generalize (k : Int) = y at *
      generalize (h : Int) = z at *
      go_enter Tryz.func80, Tryz.ntmps80
      go_wp2_with fail
      go_ret
      exact ⟨rfl, rfl⟩
theorem asks_u32 (a k h : Nat) (w : World) : Calls Tryz.prog 81 #[.int .u32 (a : Int), .int .u32 (k : Int), .int .u32 (h : Int)] w fun e w' => e = .returned (.bool (askN a k h)) ∧ w = w' := by
  by_cases h1 : a = k
  · subst h1
    rw [askN_self]
    have b1 := nat_ne_self a
    generalize (a : Int) = x at *
    go_enter Tryz.func81, Tryz.ntmps81
    go_wp2_with fail
    go_ret
    exact ⟨rfl, rfl⟩
  · have b1 := nat_ne h1
    by_cases h2 : a = h
    · subst h2
      rw [askN_same]
      have b2 := nat_ne_self a
      clear h1
      generalize (a : Int) = x at *
      generalize (k : Int) = y at *
      go_enter Tryz.func81, Tryz.ntmps81
      go_wp2_with fail
      go_ret
      exact ⟨rfl, rfl⟩
    · have b2 := nat_ne h2
      rw [show askN a k h = true by simp [askN, h1, h2]]
      clear h1 h2
      generalize (a : Int) = x at *
      generalize (k : Int) = y at *
      generalize (h : Int) = z at *
      go_enter Tryz.func81, Tryz.ntmps81
      go_wp2_with fail
      go_ret
      exact ⟨rfl, rfl⟩
theorem asks_u8 (a k h : Nat) (w : World) : Calls Tryz.prog 82 #[.int .u8 (a : Int), .int .u8 (k : Int), .int .u8 (h : Int)] w fun e w' => e = .returned (.bool (askN a k h)) ∧ w = w' := by
  by_cases h1 : a = k
  · subst h1
    rw [askN_self]
    have b1 := nat_ne_self a
    generalize (a : Int) = x at *
    go_enter Tryz.func82, Tryz.ntmps82
    go_wp2_with fail
    go_ret
    exact ⟨rfl, rfl⟩
  · have b1 := nat_ne h1
    by_cases h2 : a = h
    · subst h2
      rw [askN_same]
      have b2 := nat_ne_self a
      clear h1
      generalize (a : Int) = x at *
      generalize (k : Int) = y at *
      go_enter Tryz.func82, Tryz.ntmps82
      go_wp2_with fail
      go_ret
      exact ⟨rfl, rfl⟩
    · have b2 := nat_ne h2
      rw [show askN a k h = true by simp [askN, h1, h2]]
      clear h1 h2
      generalize (a : Int) = x at *
      generalize (k : Int) = y at *
      generalize (h : Int) = z at *
      go_enter Tryz.func82, Tryz.ntmps82
      go_wp2_with fail
      go_ret
      exact ⟨rfl, rfl⟩
theorem asks_u64 (a k h : Nat) (w : World) : Calls Tryz.prog 83 #[.int .u64 (a : Int), .int .u64 (k : Int), .int .u64 (h : Int)] w fun e w' => e = .returned (.bool (askN a k h)) ∧ w = w' := by
  by_cases h1 : a = k
  · subst h1
    rw [askN_self]
    have b1 := nat_ne_self a
    generalize (a : Int) = x at *
    go_enter Tryz.func83, Tryz.ntmps83
    go_wp2_with fail
    go_ret
    exact ⟨rfl, rfl⟩
  · have b1 := nat_ne h1
    by_cases h2 : a = h
    · subst h2
      rw [askN_same]
      have b2 := nat_ne_self a
      clear h1
      generalize (a : Int) = x at *
      generalize (k : Int) = y at *
      go_enter Tryz.func83, Tryz.ntmps83
      go_wp2_with fail
      go_ret
      exact ⟨rfl, rfl⟩
    · have b2 := nat_ne h2
      rw [show askN a k h = true by simp [askN, h1, h2]]
      clear h1 h2
      generalize (a : Int) = x at *
      generalize (k : Int) = y at *
      generalize (h : Int) = z at *
      go_enter Tryz.func83, Tryz.ntmps83
      go_wp2_with fail
      go_ret
      exact ⟨rfl, rfl⟩
theorem list_eq (a b : ByteArray) : (a.toList == b.toList) = decide (a = b) := by
  rw [ByteArray.toList_eq, ByteArray.toList_eq]
  obtain ⟨⟨x⟩⟩ := a
  obtain ⟨⟨y⟩⟩ := b
  by_cases h : x = y
  · subst h
    simp
  · simp [h]
theorem askT_list (a k h : ByteArray) : askT a k h = (!(a.toList == k.toList) && !(a.toList == h.toList)) := by
  rw [list_eq, list_eq]
  unfold askT
  by_cases h1 : a = k <;> by_cases h2 : a = h <;> simp [h1, h2]
theorem asks_text (a k h : ByteArray) (w : World) : Calls Tryz.prog 84 #[.string a, .string k, .string h] w fun e w' => e = .returned (.bool (askT a k h)) ∧ w = w' := by
  have HE := Lib.hid (askT_list a k h)
  go_enter Tryz.func84, Tryz.ntmps84
  go_wp2_with fail
  · have h1 : a.toList = k.toList := by assumption
    go_ret
    rw [HE.out, h1]
    simp
  · go_ret
    rw [HE.out]
    exact ⟨rfl, rfl⟩
theorem keep_any (w : World) : Calls Tryz.prog 38 #[] w fun e w' => e = .returned (.agg (statV keepS)) ∧ Mods [] w w' := by
  go_enter Tryz.func38, Tryz.ntmps38
  go_wp2_with fail
  refine bodyPost_ret (v := .agg #[.int .u16 65535, .int .u32 4294967295, .int .u8 255, .int .u32 4294967295, .int .u64 18446744073709551615, .int .u32 4294967295, .int .u32 4294967295, .int .u32 4294967295, .int .u64 18446744073709551615, .string ⟨#[]⟩, .string ⟨#[]⟩, .string ⟨#[]⟩, .string ⟨#[]⟩]) (by simp [results, Tryz.results38, go_sem]) rfl ⟨rfl, (Mods.refl _ _).alloc _⟩
theorem bit_and (f i : Nat) (hf : f < 65536) (hi : i < 13) : (bits .and .u16 (f : Int) ((2 ^ i : Nat) : Int) != 0) = decide (f / 2 ^ i % 2 = 1) := by
  have h2 : 2 ^ i ≤ 4096 := Nat.pow_le_pow_right (n := 2) (by omega) (by omega : i ≤ 12)
  rw [u16_and_nat f (2 ^ i) hf (by omega), nat_bit]
  have hp : 0 < 2 ^ i := Nat.two_pow_pos i
  rcases (show f / 2 ^ i % 2 = 0 ∨ f / 2 ^ i % 2 = 1 by omega) with h | h
  · rw [h]
    simp
  · rw [h, Nat.one_mul, decide_eq_true rfl]
    exact bne_iff_ne.2 (by omega)
/-- A field laid down, or not. -/
def PutPost (b : Bool) (p : Addr) (v : Value) (w : World) (e : Ending) (w' : World) : Prop := e = .returned (.tuple #[]) ∧ sel b (w.setCell p v) w = w'
theorem put_u16 (f q : Int) (b : Bool) (hb : (bits .and .u16 f q != 0) = b) (p : Addr) (v : Int) (o : Int) (w : World) (hc : w.cell? p = some (.int .u16 o)) (hf : w.frozen? p = false) :
    Calls Tryz.prog 85 #[.int .u16 f, .int .u16 q, .pointer (some p), .int .u16 v] w (PutPost b p (.int .u16 v) w) := by
  cases b
  · go_enter Tryz.func85, Tryz.ntmps85
    go_wp2_with fail
    go_end0
    exact ⟨rfl, rfl⟩
  · go_enter Tryz.func85, Tryz.ntmps85
    go_wp2_with fail
    go_end0
    exact ⟨rfl, rfl⟩
theorem put_u32 (f q : Int) (b : Bool) (hb : (bits .and .u16 f q != 0) = b) (p : Addr) (v : Int) (o : Int) (w : World) (hc : w.cell? p = some (.int .u32 o)) (hf : w.frozen? p = false) :
    Calls Tryz.prog 86 #[.int .u16 f, .int .u16 q, .pointer (some p), .int .u32 v] w (PutPost b p (.int .u32 v) w) := by
  cases b
  · go_enter Tryz.func86, Tryz.ntmps86
    go_wp2_with fail
    go_end0
    exact ⟨rfl, rfl⟩
  · go_enter Tryz.func86, Tryz.ntmps86
    go_wp2_with fail
    go_end0
    exact ⟨rfl, rfl⟩
theorem put_u8 (f q : Int) (b : Bool) (hb : (bits .and .u16 f q != 0) = b) (p : Addr) (v : Int) (o : Int) (w : World) (hc : w.cell? p = some (.int .u8 o)) (hf : w.frozen? p = false) :
    Calls Tryz.prog 87 #[.int .u16 f, .int .u16 q, .pointer (some p), .int .u8 v] w (PutPost b p (.int .u8 v) w) := by
  cases b
  · go_enter Tryz.func87, Tryz.ntmps87
    go_wp2_with fail
    go_end0
    exact ⟨rfl, rfl⟩
  · go_enter Tryz.func87, Tryz.ntmps87
    go_wp2_with fail
    go_end0
    exact ⟨rfl, rfl⟩
theorem put_u64 (f q : Int) (b : Bool) (hb : (bits .and .u16 f q != 0) = b) (p : Addr) (v : Int) (o : Int) (w : World) (hc : w.cell? p = some (.int .u64 o)) (hf : w.frozen? p = false) :
    Calls Tryz.prog 88 #[.int .u16 f, .int .u16 q, .pointer (some p), .int .u64 v] w (PutPost b p (.int .u64 v) w) := by
  cases b
  · go_enter Tryz.func88, Tryz.ntmps88
    go_wp2_with fail
    go_end0
    exact ⟨rfl, rfl⟩
  · go_enter Tryz.func88, Tryz.ntmps88
    go_wp2_with fail
    go_end0
    exact ⟨rfl, rfl⟩
theorem put_s (f q : Int) (b : Bool) (hb : (bits .and .u16 f q != 0) = b) (p : Addr) (v : ByteArray) (o : ByteArray) (w : World) (hc : w.cell? p = some (.string o)) (hf : w.frozen? p = false) :
    Calls Tryz.prog 89 #[.int .u16 f, .int .u16 q, .pointer (some p), .string v] w (PutPost b p (.string v) w) := by
  cases b
  · go_enter Tryz.func89, Tryz.ntmps89
    go_wp2_with fail
    go_end0
    exact ⟨rfl, rfl⟩
  · go_enter Tryz.func89, Tryz.ntmps89
    go_wp2_with fail
    go_end0
    exact ⟨rfl, rfl⟩
end Go.Proofs.YtnpokdbpmnkbjaaGreatDoor
namespace Go.Proofs.YtnpokdbpmnkbjaaGreatDoor.Me
open Go

section
variable {md : Region.Mode} {ops : Array Oper}
/-- The first k of m are listed. -/
def lst (m k : Nat) : Array Bool := (List.replicate k true ++ List.replicate (m - k) false).toArray
theorem lst_set {m k : Nat} (h : k < m) : (lst m k).setIfInBounds k true = lst m (k + 1) := by
  unfold lst
  rw [show m - k = (m - (k + 1)) + 1 by omega, List.replicate_succ, List.replicate_succ' (n := k)]
  simp
theorem lst_zero (m : Nat) : Array.replicate m false = lst m 0 := by simp [lst]
def headN (md : Region.Mode) (ops : Array Oper) : Nat → Nat → Array Bool → Bool
  | 0, _, _ => true
  | f + 1, k, listed => (Region.ready md ops listed).contains k && Region.free md ops listed k && headN md ops f (k + 1) (listed.setIfInBounds k true)
theorem headN_go {m g : Nat} (f f' k : Nat) (h1 : headN md ops f k (lst m k) = true) (hk : k + f ≤ m) (h2 : Region.lexHead md ops g f' (k + f) (lst m (k + f)) = true) : Region.lexHead md ops g (f + f') k (lst m k) = true := by
  induction f generalizing k with
  | zero => simpa using h2
  | succ f ih =>
    simp only [headN, Bool.and_eq_true] at h1
    rw [show f + 1 + f' = (f + f') + 1 by omega]
    simp only [Region.lexHead, Bool.and_eq_true]
    rw [lst_set (by omega)] at h1 ⊢
    exact ⟨h1.1, ih (k + 1) h1.2 (by omega) (by rw [show k + 1 + f = k + (f + 1) by omega]; exact h2)⟩
theorem lexTail_mk {n m : Nat} (hm : ops.size = m) (h0 : (Region.noSelect ops && decide (n < ops.size) && Region.sinkB md ops n && Region.chainB md ops n) = true) (hh : Region.lexHead md ops (m - n) n 0 (lst m 0) = true) : Region.lexTailB md ops n = true := by
  unfold Region.lexTailB
  rw [h0, hm, lst_zero, hh]
  rfl
end
end Go.Proofs.YtnpokdbpmnkbjaaGreatDoor.Me
namespace Go.Proofs.YtnpokdbpmnkbjaaGreatDoor
open Go.RowKit Me

def touchK (kp a h : StatP) : List Bool := [askN a.typ kp.typ h.typ, askN a.dev kp.dev h.dev, askN a.qid.kind kp.qid.kind h.qid.kind, askN a.qid.vers kp.qid.vers h.qid.vers, askN a.qid.path kp.qid.path h.qid.path, askN a.mode kp.mode h.mode, askN a.atime kp.atime h.atime, askN a.mtime kp.mtime h.mtime, askN a.length kp.length h.length, askT a.name kp.name h.name, askT a.uid kp.uid h.uid, askT a.gid kp.gid h.gid, askT a.muid kp.muid h.muid]
def RelMask (w1 : World) (l : List Bool) (f i : Value) (wr : World) : Prop := ∃ k : Nat, k ≤ 13 ∧ i = .int .i64 k ∧ f = .int .u16 (maskL (l.take k) : Int) ∧ w1 = wr
theorem or_bit (x k : Nat) (hx : x < 2 ^ k) (hk : k < 13) : bits .or .u16 (x : Int) ((2 ^ k : Nat) : Int) = ((x + 2 ^ k : Nat) : Int) := by
  have h2 : 2 ^ k ≤ 4096 := Nat.pow_le_pow_right (n := 2) (by omega) (by omega : k ≤ 12)
  rw [u16_or_nat x (2 ^ k) (by omega) (by omega)]
  have := Nat.two_pow_add_eq_or_of_lt hx 1
  rw [Nat.mul_one] at this
  rw [Nat.or_comm, ← this]
  congr 1
  omega
theorem wrap_pow {k : Nat} (h : 2 ^ k ≤ 4096) : IntKind.u16.wrap ((2 : Int) ^ k) = ((2 ^ k : Nat) : Int) := by
  rw [IntKind.wrap_u16, show (2 : Int) ^ k = ((2 ^ k : Nat) : Int) by simp]
  generalize 2 ^ k = x at *
  omega
set_option maxRecDepth 100000 in
set_option maxHeartbeats 2000000 in
theorem touched_k (kp a h : StatP) (hk : ∀ w, Calls Tryz.prog 38 #[] w fun e w' => e = .returned (.agg (statV kp)) ∧ Mods [] w w') (w : World) :
    Calls Tryz.prog 39 #[.agg (statV a), .agg (statV h)] w fun e w' => e = .returned (.int .u16 (maskL (touchK kp a h) : Int)) ∧ Mods [] w w' := by
  have M0 := Lib.hid (((Mods.refl [] w).alloc (.cells (statV a) 35)).alloc (.cells (statV h) 35))
  have A0 := Lib.hid ((Go.heap_alloc_old (w.alloc (.cells (statV a) 35)) (.cells (statV h) 35) (by simp)).trans (heap_alloc_new w (.cells (statV a) 35)))
  have hb := heap_alloc_new (w.alloc (.cells (statV a) 35)) (.cells (statV h) 35)
  rw [World.size_alloc] at hb
  have B0 := Lib.hid hb
  have HK := Lib.hid hk
  clear hb hk
  go_enter Tryz.func39, Tryz.ntmps39
  go_wp2_with fail
  refine (HK.out _).mono ?_; rintro e w1 ⟨rfl, hm⟩
  have M1 := Lib.hid ((M0.out.trans hm (by simp)).alloc (.cells (statV kp) 35))
  have a1 := hm.heap A0.out (by simp)
  have A1 := Lib.hid ((Go.heap_alloc_old w1 (.cells (statV kp) 35) (Array.getElem?_eq_some_iff.1 a1).1).trans a1)
  have b1 := hm.heap B0.out (by simp)
  have B1 := Lib.hid ((Go.heap_alloc_old w1 (.cells (statV kp) 35) (Array.getElem?_eq_some_iff.1 b1).1).trans b1)
  have K1 := Lib.hid (heap_alloc_new w1 (.cells (statV kp) 35))
  clear hm a1 b1
  generalize w.heap.size + 1 = bh at *
  generalize w.heap.size = ba at *
  unfold statV
  go_wp2_with fail
  generalize w1.heap.size = bk at *
  have hw2 : w1.alloc (.cells (statV kp) 35) = w1.alloc (.cells #[.int .u16 (kp.typ : Int), .int .u32 (kp.dev : Int), .int .u8 (kp.qid.kind : Int), .int .u32 (kp.qid.vers : Int), .int .u64 (kp.qid.path : Int), .int .u32 (kp.mode : Int), .int .u32 (kp.atime : Int), .int .u32 (kp.mtime : Int), .int .u64 (kp.length : Int), .string kp.name, .string kp.uid, .string kp.gid, .string kp.muid] 35) := rfl
  rw [hw2] at M1 A1 B1 K1
  clear hw2
  generalize w1.alloc (.cells #[.int .u16 (kp.typ : Int), .int .u32 (kp.dev : Int), .int .u8 (kp.qid.kind : Int), .int .u32 (kp.qid.vers : Int), .int .u64 (kp.qid.path : Int), .int .u32 (kp.mode : Int), .int .u32 (kp.atime : Int), .int .u32 (kp.mtime : Int), .int .u64 (kp.length : Int), .string kp.name, .string kp.uid, .string kp.gid, .string kp.muid] 35) = w2 at *
  have c0 : (w2).cell? ⟨ba, 0, none⟩ = some (.int .u16 (a.typ : Int)) := (cell_of_row _ _ _ _ _ _ A1.out).trans rfl
  have c1 : (w2).cell? ⟨ba, 1, none⟩ = some (.int .u32 (a.dev : Int)) := (cell_of_row _ _ _ _ _ _ A1.out).trans rfl
  have c2 : (w2).cell? ⟨ba, 2, none⟩ = some (.int .u8 (a.qid.kind : Int)) := (cell_of_row _ _ _ _ _ _ A1.out).trans rfl
  have c3 : (w2).cell? ⟨ba, 3, none⟩ = some (.int .u32 (a.qid.vers : Int)) := (cell_of_row _ _ _ _ _ _ A1.out).trans rfl
  have c4 : (w2).cell? ⟨ba, 4, none⟩ = some (.int .u64 (a.qid.path : Int)) := (cell_of_row _ _ _ _ _ _ A1.out).trans rfl
  have c5 : (w2).cell? ⟨ba, 5, none⟩ = some (.int .u32 (a.mode : Int)) := (cell_of_row _ _ _ _ _ _ A1.out).trans rfl
  have c6 : (w2).cell? ⟨ba, 6, none⟩ = some (.int .u32 (a.atime : Int)) := (cell_of_row _ _ _ _ _ _ A1.out).trans rfl
  have c7 : (w2).cell? ⟨ba, 7, none⟩ = some (.int .u32 (a.mtime : Int)) := (cell_of_row _ _ _ _ _ _ A1.out).trans rfl
  have c8 : (w2).cell? ⟨ba, 8, none⟩ = some (.int .u64 (a.length : Int)) := (cell_of_row _ _ _ _ _ _ A1.out).trans rfl
  have c9 : (w2).cell? ⟨ba, 9, none⟩ = some (.string a.name) := (cell_of_row _ _ _ _ _ _ A1.out).trans rfl
  have c10 : (w2).cell? ⟨ba, 10, none⟩ = some (.string a.uid) := (cell_of_row _ _ _ _ _ _ A1.out).trans rfl
  have c11 : (w2).cell? ⟨ba, 11, none⟩ = some (.string a.gid) := (cell_of_row _ _ _ _ _ _ A1.out).trans rfl
  have c12 : (w2).cell? ⟨ba, 12, none⟩ = some (.string a.muid) := (cell_of_row _ _ _ _ _ _ A1.out).trans rfl
  have d0 : (w2).cell? ⟨bh, 0, none⟩ = some (.int .u16 (h.typ : Int)) := (cell_of_row _ _ _ _ _ _ B1.out).trans rfl
  have d1 : (w2).cell? ⟨bh, 1, none⟩ = some (.int .u32 (h.dev : Int)) := (cell_of_row _ _ _ _ _ _ B1.out).trans rfl
  have d2 : (w2).cell? ⟨bh, 2, none⟩ = some (.int .u8 (h.qid.kind : Int)) := (cell_of_row _ _ _ _ _ _ B1.out).trans rfl
  have d3 : (w2).cell? ⟨bh, 3, none⟩ = some (.int .u32 (h.qid.vers : Int)) := (cell_of_row _ _ _ _ _ _ B1.out).trans rfl
  have d4 : (w2).cell? ⟨bh, 4, none⟩ = some (.int .u64 (h.qid.path : Int)) := (cell_of_row _ _ _ _ _ _ B1.out).trans rfl
  have d5 : (w2).cell? ⟨bh, 5, none⟩ = some (.int .u32 (h.mode : Int)) := (cell_of_row _ _ _ _ _ _ B1.out).trans rfl
  have d6 : (w2).cell? ⟨bh, 6, none⟩ = some (.int .u32 (h.atime : Int)) := (cell_of_row _ _ _ _ _ _ B1.out).trans rfl
  have d7 : (w2).cell? ⟨bh, 7, none⟩ = some (.int .u32 (h.mtime : Int)) := (cell_of_row _ _ _ _ _ _ B1.out).trans rfl
  have d8 : (w2).cell? ⟨bh, 8, none⟩ = some (.int .u64 (h.length : Int)) := (cell_of_row _ _ _ _ _ _ B1.out).trans rfl
  have d9 : (w2).cell? ⟨bh, 9, none⟩ = some (.string h.name) := (cell_of_row _ _ _ _ _ _ B1.out).trans rfl
  have d10 : (w2).cell? ⟨bh, 10, none⟩ = some (.string h.uid) := (cell_of_row _ _ _ _ _ _ B1.out).trans rfl
  have d11 : (w2).cell? ⟨bh, 11, none⟩ = some (.string h.gid) := (cell_of_row _ _ _ _ _ _ B1.out).trans rfl
  have d12 : (w2).cell? ⟨bh, 12, none⟩ = some (.string h.muid) := (cell_of_row _ _ _ _ _ _ B1.out).trans rfl
  have k0 : (w2).cell? ⟨bk, 0, none⟩ = some (.int .u16 (kp.typ : Int)) := (cell_of_row _ _ _ _ _ _ K1.out).trans rfl
  have k1 : (w2).cell? ⟨bk, 1, none⟩ = some (.int .u32 (kp.dev : Int)) := (cell_of_row _ _ _ _ _ _ K1.out).trans rfl
  have k2 : (w2).cell? ⟨bk, 2, none⟩ = some (.int .u8 (kp.qid.kind : Int)) := (cell_of_row _ _ _ _ _ _ K1.out).trans rfl
  have k3 : (w2).cell? ⟨bk, 3, none⟩ = some (.int .u32 (kp.qid.vers : Int)) := (cell_of_row _ _ _ _ _ _ K1.out).trans rfl
  have k4 : (w2).cell? ⟨bk, 4, none⟩ = some (.int .u64 (kp.qid.path : Int)) := (cell_of_row _ _ _ _ _ _ K1.out).trans rfl
  have k5 : (w2).cell? ⟨bk, 5, none⟩ = some (.int .u32 (kp.mode : Int)) := (cell_of_row _ _ _ _ _ _ K1.out).trans rfl
  have k6 : (w2).cell? ⟨bk, 6, none⟩ = some (.int .u32 (kp.atime : Int)) := (cell_of_row _ _ _ _ _ _ K1.out).trans rfl
  have k7 : (w2).cell? ⟨bk, 7, none⟩ = some (.int .u32 (kp.mtime : Int)) := (cell_of_row _ _ _ _ _ _ K1.out).trans rfl
  have k8 : (w2).cell? ⟨bk, 8, none⟩ = some (.int .u64 (kp.length : Int)) := (cell_of_row _ _ _ _ _ _ K1.out).trans rfl
  have k9 : (w2).cell? ⟨bk, 9, none⟩ = some (.string kp.name) := (cell_of_row _ _ _ _ _ _ K1.out).trans rfl
  have k10 : (w2).cell? ⟨bk, 10, none⟩ = some (.string kp.uid) := (cell_of_row _ _ _ _ _ _ K1.out).trans rfl
  have k11 : (w2).cell? ⟨bk, 11, none⟩ = some (.string kp.gid) := (cell_of_row _ _ _ _ _ _ K1.out).trans rfl
  have k12 : (w2).cell? ⟨bk, 12, none⟩ = some (.string kp.muid) := (cell_of_row _ _ _ _ _ _ K1.out).trans rfl
  dsimp only [List.append_eq, List.cons_append, List.nil_append]
  refine wp_region_still_tail 100 (by kernel_rfl) (lexTail_mk (m := 102) (by kernel_rfl) (by as_aux_lemma => kernel_rfl) (headN_go 10 90 0 (by as_aux_lemma => kernel_rfl) (by omega) (headN_go 10 80 10 (by as_aux_lemma => kernel_rfl) (by omega) (headN_go 10 70 20 (by as_aux_lemma => kernel_rfl) (by omega) (headN_go 10 60 30 (by as_aux_lemma => kernel_rfl) (by omega) (headN_go 10 50 40 (by as_aux_lemma => kernel_rfl) (by omega) (headN_go 10 40 50 (by as_aux_lemma => kernel_rfl) (by omega) (headN_go 10 30 60 (by as_aux_lemma => kernel_rfl) (by omega) (headN_go 10 20 70 (by as_aux_lemma => kernel_rfl) (by omega) (headN_go 10 10 80 (by as_aux_lemma => kernel_rfl) (by omega) (headN_go 10 0 90 (by as_aux_lemma => kernel_rfl) (by omega) (by as_aux_lemma => kernel_rfl)))))))))))) ?_
  dsimp only [List.take_succ_cons, List.take_zero, List.drop_succ_cons, List.drop_zero]
  repeat still_step
  still_call ((asks_u16 a.typ kp.typ h.typ _).mono fun _ _ hh => ⟨hh.1, hh.2.symm⟩)
  repeat still_step
  still_call ((asks_u32 a.dev kp.dev h.dev _).mono fun _ _ hh => ⟨hh.1, hh.2.symm⟩)
  repeat still_step
  still_call ((asks_u8 a.qid.kind kp.qid.kind h.qid.kind _).mono fun _ _ hh => ⟨hh.1, hh.2.symm⟩)
  repeat still_step
  still_call ((asks_u32 a.qid.vers kp.qid.vers h.qid.vers _).mono fun _ _ hh => ⟨hh.1, hh.2.symm⟩)
  repeat still_step
  still_call ((asks_u64 a.qid.path kp.qid.path h.qid.path _).mono fun _ _ hh => ⟨hh.1, hh.2.symm⟩)
  repeat still_step
  still_call ((asks_u32 a.mode kp.mode h.mode _).mono fun _ _ hh => ⟨hh.1, hh.2.symm⟩)
  repeat still_step
  still_call ((asks_u32 a.atime kp.atime h.atime _).mono fun _ _ hh => ⟨hh.1, hh.2.symm⟩)
  repeat still_step
  still_call ((asks_u32 a.mtime kp.mtime h.mtime _).mono fun _ _ hh => ⟨hh.1, hh.2.symm⟩)
  repeat still_step
  still_call ((asks_u64 a.length kp.length h.length _).mono fun _ _ hh => ⟨hh.1, hh.2.symm⟩)
  repeat still_step
  still_call ((asks_text a.name kp.name h.name _).mono fun _ _ hh => ⟨hh.1, hh.2.symm⟩)
  repeat still_step
  still_call ((asks_text a.uid kp.uid h.uid _).mono fun _ _ hh => ⟨hh.1, hh.2.symm⟩)
  repeat still_step
  still_call ((asks_text a.gid kp.gid h.gid _).mono fun _ _ hh => ⟨hh.1, hh.2.symm⟩)
  repeat still_step
  still_call ((asks_text a.muid kp.muid h.muid _).mono fun _ _ hh => ⟨hh.1, hh.2.symm⟩)
  refine wpStill_nil ?_
  change wpList _ _ _ _ _ w2.drew
  have M2 := Lib.hid M1.out.drew
  generalize w2.drew = w3 at *
  clear c0 c1 c2 c3 c4 c5 c6 c7 c8 c9 c10 c11 c12 d0 d1 d2 d3 d4 d5 d6 d7 d8 d9 d10 d11 d12 k0 k1 k2 k3 k4 k5 k6 k7 k8 k9 k10 k11 k12 M1 A1 B1 K1 A0 B0 M0 HK
  have M3 := Lib.hid (M2.out.alloc (.cells #[.bool (askN a.typ kp.typ h.typ), .bool (askN a.dev kp.dev h.dev), .bool (askN a.qid.kind kp.qid.kind h.qid.kind), .bool (askN a.qid.vers kp.qid.vers h.qid.vers), .bool (askN a.qid.path kp.qid.path h.qid.path), .bool (askN a.mode kp.mode h.mode), .bool (askN a.atime kp.atime h.atime), .bool (askN a.mtime kp.mtime h.mtime), .bool (askN a.length kp.length h.length), .bool (askT a.name kp.name h.name), .bool (askT a.uid kp.uid h.uid), .bool (askT a.gid kp.gid h.gid), .bool (askT a.muid kp.muid h.muid)] 4))
  have hr := heap_alloc_new w3 (.cells #[.bool (askN a.typ kp.typ h.typ), .bool (askN a.dev kp.dev h.dev), .bool (askN a.qid.kind kp.qid.kind h.qid.kind), .bool (askN a.qid.vers kp.qid.vers h.qid.vers), .bool (askN a.qid.path kp.qid.path h.qid.path), .bool (askN a.mode kp.mode h.mode), .bool (askN a.atime kp.atime h.atime), .bool (askN a.mtime kp.mtime h.mtime), .bool (askN a.length kp.length h.length), .bool (askT a.name kp.name h.name), .bool (askT a.uid kp.uid h.uid), .bool (askT a.gid kp.gid h.gid), .bool (askT a.muid kp.muid h.muid)] 4)
  have HR := Lib.hid hr
  clear hr
  go_wp2_with fail
  have hr := HR.out
  have hbl : (#[.bool (askN a.typ kp.typ h.typ), .bool (askN a.dev kp.dev h.dev), .bool (askN a.qid.kind kp.qid.kind h.qid.kind), .bool (askN a.qid.vers kp.qid.vers h.qid.vers), .bool (askN a.qid.path kp.qid.path h.qid.path), .bool (askN a.mode kp.mode h.mode), .bool (askN a.atime kp.atime h.atime), .bool (askN a.mtime kp.mtime h.mtime), .bool (askN a.length kp.length h.length), .bool (askT a.name kp.name h.name), .bool (askT a.uid kp.uid h.uid), .bool (askT a.gid kp.gid h.gid), .bool (askT a.muid kp.muid h.muid)] : Array Value) = ((touchK kp a h).map Value.bool).toArray := rfl
  rw [hbl] at hr M3 ⊢
  have R3 := Lib.hid hr
  clear hr hbl HR
  generalize hl : touchK kp a h = l at *
  have hll : l.length = 13 := by rw [← hl]; rfl
  have HLL := Lib.hid hll
  have HL := Lib.hid hl
  clear hl hll M2
  generalize w3.alloc (.cells (l.map Value.bool).toArray 4) = w4 at *
  generalize w3.heap.size = c at *
  go_loopw [7, 114] (fun f i wr => RelMask w4 l f i wr) (fun _ i _ => 13 - (intOf i).toNat)
  case atStart => exact ⟨0, by omega, rfl, by simp [maskL], rfl⟩
  case round =>
    obtain ⟨k, hk, rfl, rfl, rfl⟩ := hrel
    rcases Nat.lt_or_ge k 13 with hlt | hge
    · have hlk : k < l.length := by have := HLL.out; omega
      have hc0 : w4.cell? ⟨c, k, none⟩ = some (.bool l[k]) := by rw [cell_of_row _ _ _ _ _ _ R3.out]; simp [hlk]
      have HS := Lib.hid (maskL_snoc (l.take k) l[k])
      have HT := Lib.hid (show l.take (k + 1) = l.take k ++ [l[k]] from List.take_succ_eq_append_getElem hlk)
      have hx := maskL_lt (l.take k)
      have htl : (l.take k).length = k := by rw [List.length_take]; omega
      rw [htl] at hx HS
      have HB := Lib.hid (or_bit _ k hx hlt)
      have h2 : 2 ^ k ≤ 4096 := Nat.pow_le_pow_right (n := 2) (by omega) (by omega : k ≤ 12)
      have HX := Lib.hid hx
      generalize hxx : maskL (l.take k) = x at *
      have HXX := Lib.hid hxx
      clear hxx hx htl
      generalize l[k] = t at *
      cases t
      · go_wp2_with fail
        exact ⟨⟨k + 1, by omega, rfl, by rw [HT.out, HS.out, if_neg (by simp), Nat.add_zero], rfl⟩, by simp only [intOf]; omega⟩
      · go_wp2_with fail
        exact ⟨⟨k + 1, by omega, rfl, by rw [HT.out, HS.out, if_pos rfl, ← HB.out, wrap_pow h2], rfl⟩, by simp only [intOf]; omega⟩
    · obtain rfl : k = 13 := by omega
      go_wp2_with fail
      go_ret
      refine ⟨?_, M3.out⟩
      rw [HL.out, List.take_of_length_le (by have := HLL.out; omega)]
      rfl
theorem touched_any (a h : StatP) (w : World) : Calls Tryz.prog 39 #[.agg (statV a), .agg (statV h)] w fun e w' => e = .returned (.int .u16 (touched a h : Int)) ∧ Mods [] w w' := touched_k keepS a h keep_any w
end Go.Proofs.YtnpokdbpmnkbjaaGreatDoor
