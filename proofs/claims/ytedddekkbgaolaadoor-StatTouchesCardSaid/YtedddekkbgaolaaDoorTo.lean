/- Which fields a record touches, and a record over another one, as plain functions: what touches nothing changes nothing; touched fields and no others are as wanted; once is enough. No program. -/
import Derived.Test.YtedddekkbgaolaaDoorSt
namespace Go.Proofs.YtedddekkbgaolaaDoor

def keepS : StatP := ⟨65535, 4294967295, ⟨255, 4294967295, 18446744073709551615⟩, 4294967295, 4294967295, 4294967295, 18446744073709551615, ⟨#[]⟩, ⟨#[]⟩, ⟨#[]⟩, ⟨#[]⟩⟩
def askN (a k h : Nat) : Bool := decide (a ≠ k ∧ a ≠ h)
def askT (a k h : ByteArray) : Bool := decide (a ≠ k ∧ a ≠ h)
/-- Which fields are touched, one by one. -/
def touch (a h : StatP) : List Bool :=
  [askN a.typ keepS.typ h.typ, askN a.dev keepS.dev h.dev, askN a.qid.kind keepS.qid.kind h.qid.kind, askN a.qid.vers keepS.qid.vers h.qid.vers, askN a.qid.path keepS.qid.path h.qid.path, askN a.mode keepS.mode h.mode,
    askN a.atime keepS.atime h.atime, askN a.mtime keepS.mtime h.mtime, askN a.length keepS.length h.length, askT a.name keepS.name h.name, askT a.uid keepS.uid h.uid, askT a.gid keepS.gid h.gid, askT a.muid keepS.muid h.muid]
/-- The set as a number. -/
def maskL : List Bool → Nat
  | [] => 0
  | b :: l => (if b then 1 else 0) + 2 * maskL l
def touched (a h : StatP) : Nat := maskL (touch a h)
def sel {α : Type} (b : Bool) (x y : α) : α := if b then x else y
def overS (a h : StatP) : StatP :=
  ⟨sel (askN a.typ keepS.typ h.typ) a.typ h.typ, sel (askN a.dev keepS.dev h.dev) a.dev h.dev, ⟨sel (askN a.qid.kind keepS.qid.kind h.qid.kind) a.qid.kind h.qid.kind, sel (askN a.qid.vers keepS.qid.vers h.qid.vers) a.qid.vers h.qid.vers, sel (askN a.qid.path keepS.qid.path h.qid.path) a.qid.path h.qid.path⟩,
    sel (askN a.mode keepS.mode h.mode) a.mode h.mode, sel (askN a.atime keepS.atime h.atime) a.atime h.atime, sel (askN a.mtime keepS.mtime h.mtime) a.mtime h.mtime, sel (askN a.length keepS.length h.length) a.length h.length,
    sel (askT a.name keepS.name h.name) a.name h.name, sel (askT a.uid keepS.uid h.uid) a.uid h.uid, sel (askT a.gid keepS.gid h.gid) a.gid h.gid, sel (askT a.muid keepS.muid h.muid) a.muid h.muid⟩
theorem maskL_append (a b : List Bool) : maskL (a ++ b) = maskL a + 2 ^ a.length * maskL b := by
  induction a with
  | nil => simp [maskL]
  | cons x a ih =>
    simp only [List.cons_append, maskL, ih, List.length_cons, Nat.pow_succ, Nat.mul_add]
    rw [Nat.mul_comm (2 ^ a.length) 2, Nat.mul_assoc]
    omega
theorem maskL_lt (l : List Bool) : maskL l < 2 ^ l.length := by
  induction l with
  | nil => simp [maskL]
  | cons x l ih =>
    simp only [maskL, List.length_cons, Nat.pow_succ]
    split <;> omega
theorem maskL_bit (l : List Bool) (i : Nat) : maskL l / 2 ^ i % 2 = if l[i]? = some true then 1 else 0 := by
  induction l generalizing i with
  | nil => simp [maskL]
  | cons x l ih =>
    cases i with
    | zero =>
      simp only [maskL, Nat.pow_zero, Nat.div_one, List.getElem?_cons_zero, Option.some.injEq]
      cases x <;> simp <;> omega
    | succ i =>
      simp only [maskL, List.getElem?_cons_succ]
      rw [← ih i, Nat.pow_succ, Nat.mul_comm (2 ^ i) 2, ← Nat.div_div_eq_div_mul]
      congr 2
      cases x <;> simp <;> omega
theorem maskL_snoc (l : List Bool) (b : Bool) : maskL (l ++ [b]) = maskL l + if b then 2 ^ l.length else 0 := by
  rw [maskL_append]
  cases b <;> simp [maskL]
theorem maskL_zero {l : List Bool} (h : ∀ b ∈ l, b = false) : maskL l = 0 := by
  induction l with
  | nil => rfl
  | cons x l ih =>
    have h1 := h x (by simp)
    subst h1
    simp [maskL, ih fun b hb => h b (by simp [hb])]
theorem askN_self (k h : Nat) : askN k k h = false := by simp [askN]
theorem askT_self (k h : ByteArray) : askT k k h = false := by simp [askT]
theorem askN_same (a k : Nat) : askN a k a = false := by simp [askN]
theorem askT_same (a k : ByteArray) : askT a k a = false := by simp [askT]
theorem askN_sel (a k h : Nat) : askN a k (sel (askN a k h) a h) = false := by
  by_cases h1 : askN a k h = true
  · rw [h1]
    exact askN_same a k
  · have h2 : askN a k h = false := by simpa using h1
    rw [h2]
    exact h2
theorem askT_sel (a k h : ByteArray) : askT a k (sel (askT a k h) a h) = false := by
  by_cases h1 : askT a k h = true
  · rw [h1]
    exact askT_same a k
  · have h2 : askT a k h = false := by simpa using h1
    rw [h2]
    exact h2
theorem touched_keep (h : StatP) : touched keepS h = 0 := by
  refine maskL_zero fun b hb => ?_
  simp only [touch, askN_self, askT_self, List.mem_cons, List.not_mem_nil, or_false, or_self] at hb
  exact hb
theorem over_keep (h : StatP) : overS keepS h = h := by
  simp only [overS, askN_self, askT_self, sel]
  rfl
theorem touched_self (h : StatP) : touched h h = 0 := by
  refine maskL_zero fun b hb => ?_
  simp only [touch, askN_same, askT_same, List.mem_cons, List.not_mem_nil, or_false, or_self] at hb
  exact hb
theorem touched_over (a h : StatP) : touched a (overS a h) = 0 := by
  refine maskL_zero fun b hb => ?_
  simp only [touch, overS, askN_sel, askT_sel, List.mem_cons, List.not_mem_nil, or_false, or_self] at hb
  exact hb
theorem over_over (a h : StatP) : overS a (overS a h) = overS a h := by
  unfold overS
  simp only [askN_sel, askT_sel]
  rfl
theorem touch_length (a h : StatP) : (touch a h).length = 13 := rfl
theorem touched_lt (a h : StatP) : touched a h < 8192 := by
  have := maskL_lt (touch a h)
  rw [touch_length] at this
  unfold touched
  omega
end Go.Proofs.YtedddekkbgaolaaDoor
