/- The walks of NewReader and a reader's Part. -/
import Derived.Test.YtmcekhgmmocajaaDoorRr
namespace Go.Proofs.YtmcekhgmmocajaaDoor
open Go.RowKit Me

def RSt.new (l : List UInt8) : RSt := ⟨l, 0, 0, 0, 0⟩
theorem plain_own {w : World} {base : Nat} {e : TypeId} {size : Nat} {v : Value} {n : Nat} {xs : List Value} (h : w.ownsRow base e size v n xs) : Plain v := by
  rcases ownsRow_form h with ⟨rfl, _⟩ | ⟨g, c, rfl, _⟩
  · exact Or.inl rfl
  · exact Or.inr ⟨g, 0, n, c, rfl⟩
/-- A new reader in a new block. -/
theorem isR_new (T : TypeId) {w : World} {vb : Value} {S : RSt} (hw : S.Wf) (hb : Rd w vb (S.bytes.map byteV)) (hp : Plain vb) (hl : ∀ k, vb.ownBlock = some k → k < w.heap.size) :
    IsR T (w.alloc (.cells #[vb, .int .i64 (S.place : Int), .int .i64 (S.base : Int), .int .i64 S.err, .int .i64 (S.spot : Int)] T)) w.heap.size S vb :=
  ⟨hw, heap_alloc_new w _, hb.mods (F := []) ((Mods.refl _ _).alloc _) (by simp), fun h => by have := hl _ h; omega, hp⟩

/-- What NewReader leaves. -/
def NewPost (T : TypeId) (w : World) (l : List UInt8) (e : Ending) (w' : World) : Prop :=
  ∃ a vb, e = .returned (.pointer (some ⟨a, 0, none⟩)) ∧ IsR T w' a (RSt.new l) vb ∧ w'.ownsRow w.heap.size 5 1 vb l.length (l.map byteV) ∧ w.heap.size ≤ a ∧ Mods [] w w'

set_option maxRecDepth 100000 in
set_option maxHeartbeats 400000 in
theorem newReader_any {w : World} {vx : Value} (l : List UInt8) (hx : Rd w vx (l.map byteV)) (hl : l.length ≤ 70000000000000) :
    Calls Tryd.prog 43 #[vx] w (NewPost 103 w l) := by
  have HX := Lib.hid hx
  clear hx
  obtain ⟨i0, hi, hz0, hz1, hz2⟩ := info_parts info5
  go_enter Tryd.func43, Tryd.ntmps43
  go_wp2_with (at_builtin; go_must (refine wpList_app _ rfl _ _ 22 22 rfl w.heap.size 5 i0 (.int .u8 0) 1 1 Tryd.underlying22 hi hz0 hz1 hz2 rfl (.slice none 0 0) 0 [] rfl (World.ownsRow_nil _ _ _ _) vx l.length (l.map byteV) rfl ?c1 ?c2 ?c3 ?c4 ?_))
  case c1 =>
    have h := HX.out.src Tryd.underlying22 (bytes_one _)
    rw [List.length_map] at h
    exact h
  case c2 => unfold maxLen; omega
  case c3 => omega
  case c4 => exact Nat.le_refl _
  intro v' w1 hown hgrow hat2
  obtain ⟨A', c', rfl⟩ := own_ctor hown
  have HM := Lib.hid ((Mods.refl [] w).grown hgrow (by simp [Value.ownBlock]))
  have HO := Lib.hid hown
  clear hown hgrow hat2
  have HI := Lib.hid (isR_new 103 (w := w1) (vb := .slice A' l.length c') (S := RSt.new l) ⟨Nat.zero_le _, by show 0 + l.length ≤ _; omega, Nat.zero_le _, by show _ ≤ (0 : Int); omega, by show (0 : Int) ≤ _; omega⟩ (by
    have := Rd.of_own HO.out
    simpa [RSt.new] using this) (plain_own HO.out) (ownsRow_lt HO.out))
  go_wp2_with fail
  go_ret
  refine ⟨w1.heap.size, _, rfl, HI.out, ?_, HM.out.size, HM.out.alloc _⟩
  exact ownsRow_mods (F := []) HO.out ((Mods.refl _ _).alloc _) (by simp)

/-- What Part leaves. -/
def PartPost (T : TypeId) (w : World) (a : Nat) (vb : Value) (r : RSt × RSt) (e : Ending) (w' : World) : Prop :=
  ∃ p vp, e = .returned (.pointer (some ⟨p, 0, none⟩)) ∧ IsR T w' p r.1 vp ∧ w.heap.size ≤ p ∧ (∀ k, vp.ownBlock = some k → vb.ownBlock = some k) ∧ RPost T w a vb r.2 w'

/-- A piece of a slice, its room cut too. -/
theorem rd_part3 {w : World} {g off c m p n : Nat} {xs : List Value} (h : Rd w (.slice (some ⟨g, off, none⟩) m c) xs) (hm : xs.length = m) (hp : p + n ≤ m) :
    Rd w (.slice (if n = 0 then some ⟨g, off, none⟩ else some ⟨g, off + p, none⟩) n n) ((xs.drop p).take n) := by
  have hl : ((xs.drop p).take n).length = n := by simp; omega
  obtain ⟨A, c', e, h1, h2, h3⟩ := h
  cases e
  refine ⟨_, n, by rw [hl], by omega, by omega, fun j u hu => ?_⟩
  have hj : j < n := by rw [← hl]; exact (List.getElem?_eq_some_iff.1 hu).1
  have hu' : xs[p + j]? = some u := by
    rw [List.getElem?_take, if_pos hj, List.getElem?_drop] at hu
    exact hu
  obtain ⟨g', off', e', hc⟩ := h3 _ _ hu'
  cases e'
  refine ⟨g, off + p, by rw [if_neg (by omega)], ?_⟩
  rw [Nat.add_assoc]
  exact hc
theorem counted_some {S : RSt} {n : Nat} (hc : S.counted.1 = some n) : S.counted = (some n, S) ∧ S.err = 0 ∧ 2 + n ≤ S.rest.length ∧ n < 65536 := by
  unfold RSt.counted at hc ⊢
  by_cases he : S.err ≠ 0
  · rw [if_pos he] at hc; simp at hc
  rw [if_neg he] at hc ⊢
  by_cases h2 : S.rest.length < 2
  · rw [if_pos h2] at hc; simp at hc
  rw [if_neg h2] at hc ⊢
  by_cases h3 : S.rest.length < 2 + val (S.rest.take 2)
  · rw [if_pos h3] at hc; simp at hc
  rw [if_neg h3] at hc ⊢
  simp at hc
  subst hc
  exact ⟨rfl, by omega, by omega, val_take_lt _ 2⟩
end Go.Proofs.YtmcekhgmmocajaaDoor
