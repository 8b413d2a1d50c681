/- The fields of a record, one by one; what of them is touched. No program. -/
import Derived.Test.YtedddekkbgaolaaDoorTo
namespace Go.Proofs.YtedddekkbgaolaaDoor

def partsN (s : StatP) : List Nat := [s.typ, s.dev, s.qid.kind, s.qid.vers, s.qid.path, s.mode, s.atime, s.mtime, s.length, 0, 0, 0, 0]
def partsT (s : StatP) : List ByteArray := [⟨#[]⟩, ⟨#[]⟩, ⟨#[]⟩, ⟨#[]⟩, ⟨#[]⟩, ⟨#[]⟩, ⟨#[]⟩, ⟨#[]⟩, ⟨#[]⟩, s.name, s.uid, s.gid, s.muid]
/-- What is so of a field that is touched, and of one that is not. -/
def PartOk (b : Bool) (na nh nn : Nat) (ta th tn : ByteArray) : Prop := if b = true then nn = na ∧ tn = ta ∧ (na ≠ nh ∨ ta ≠ th) else nn = nh ∧ tn = th
theorem partOkN (a k h : Nat) (t : ByteArray) : PartOk (askN a k h) a h (sel (askN a k h) a h) t t t := by
  unfold PartOk
  by_cases hb : askN a k h = true
  · rw [if_pos hb, hb]
    exact ⟨rfl, rfl, Or.inl (by simp [askN] at hb; exact hb.2)⟩
  · rw [if_neg hb]
    have hb' : askN a k h = false := by simpa using hb
    rw [hb']
    exact ⟨rfl, rfl⟩
theorem partOkT (a k h : ByteArray) (n : Nat) : PartOk (askT a k h) n n n a h (sel (askT a k h) a h) := by
  unfold PartOk
  by_cases hb : askT a k h = true
  · rw [if_pos hb, hb]
    exact ⟨rfl, rfl, Or.inr (by simp [askT] at hb; exact hb.2)⟩
  · rw [if_neg hb]
    have hb' : askT a k h = false := by simpa using hb
    rw [hb']
    exact ⟨rfl, rfl⟩
theorem parts_ok (a h : StatP) {k : Nat} (hk : k < 13) : ∃ b na nh nn ta th tn, (touch a h)[k]? = some b ∧ (partsN a)[k]? = some na ∧ (partsN h)[k]? = some nh ∧ (partsN (overS a h))[k]? = some nn ∧
    (partsT a)[k]? = some ta ∧ (partsT h)[k]? = some th ∧ (partsT (overS a h))[k]? = some tn ∧ PartOk b na nh nn ta th tn := by
  match k, hk with
  | 0, _ => exact ⟨_, _, _, _, _, _, _, rfl, rfl, rfl, rfl, rfl, rfl, rfl, partOkN _ _ _ _⟩
  | 1, _ => exact ⟨_, _, _, _, _, _, _, rfl, rfl, rfl, rfl, rfl, rfl, rfl, partOkN _ _ _ _⟩
  | 2, _ => exact ⟨_, _, _, _, _, _, _, rfl, rfl, rfl, rfl, rfl, rfl, rfl, partOkN _ _ _ _⟩
  | 3, _ => exact ⟨_, _, _, _, _, _, _, rfl, rfl, rfl, rfl, rfl, rfl, rfl, partOkN _ _ _ _⟩
  | 4, _ => exact ⟨_, _, _, _, _, _, _, rfl, rfl, rfl, rfl, rfl, rfl, rfl, partOkN _ _ _ _⟩
  | 5, _ => exact ⟨_, _, _, _, _, _, _, rfl, rfl, rfl, rfl, rfl, rfl, rfl, partOkN _ _ _ _⟩
  | 6, _ => exact ⟨_, _, _, _, _, _, _, rfl, rfl, rfl, rfl, rfl, rfl, rfl, partOkN _ _ _ _⟩
  | 7, _ => exact ⟨_, _, _, _, _, _, _, rfl, rfl, rfl, rfl, rfl, rfl, rfl, partOkN _ _ _ _⟩
  | 8, _ => exact ⟨_, _, _, _, _, _, _, rfl, rfl, rfl, rfl, rfl, rfl, rfl, partOkN _ _ _ _⟩
  | 9, _ => exact ⟨_, _, _, _, _, _, _, rfl, rfl, rfl, rfl, rfl, rfl, rfl, partOkT _ _ _ _⟩
  | 10, _ => exact ⟨_, _, _, _, _, _, _, rfl, rfl, rfl, rfl, rfl, rfl, rfl, partOkT _ _ _ _⟩
  | 11, _ => exact ⟨_, _, _, _, _, _, _, rfl, rfl, rfl, rfl, rfl, rfl, rfl, partOkT _ _ _ _⟩
  | 12, _ => exact ⟨_, _, _, _, _, _, _, rfl, rfl, rfl, rfl, rfl, rfl, rfl, partOkT _ _ _ _⟩
theorem sel_fits {b : Bool} {x y m : Nat} (hx : x < m) (hy : y < m) : sel b x y < m := by cases b <;> assumption
theorem over_fits {a h : StatP} (ha : a.Fits) (hh : h.Fits) : (overS a h).Fits :=
  ⟨sel_fits ha.typ hh.typ, sel_fits ha.dev hh.dev, ⟨sel_fits ha.qid.kind hh.qid.kind, sel_fits ha.qid.vers hh.qid.vers, sel_fits ha.qid.path hh.qid.path⟩, sel_fits ha.mode hh.mode, sel_fits ha.atime hh.atime, sel_fits ha.mtime hh.mtime, sel_fits ha.length hh.length⟩
theorem keep_fits : keepS.Fits := ⟨by decide, by decide, ⟨by decide, by decide, by decide⟩, by decide, by decide, by decide, by decide⟩
end Go.Proofs.YtedddekkbgaolaaDoor
