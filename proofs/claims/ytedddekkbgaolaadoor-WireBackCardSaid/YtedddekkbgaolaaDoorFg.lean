/- finds, whole. -/
import Derived.Test.YtedddekkbgaolaaDoorFf
namespace Go.Proofs.YtedddekkbgaolaaDoor
open Go.RowKit Me
def RSt.finds (S : RSt) (o : OpP) : Bool × RSt :=
  if o.kind = 1 then (decide ((S.get 1).1 = o.n % 256), (S.get 1).2) else if o.kind = 2 then (decide ((S.get 2).1 = o.n % 65536), (S.get 2).2)
  else if o.kind = 3 then (decide ((S.get 4).1 = o.n % 4294967296), (S.get 4).2) else if o.kind = 4 then (decide ((S.get 8).1 = o.n), (S.get 8).2)
  else if o.kind = 5 then (decide ((S.raw o.b.length).1 = o.b), (S.raw o.b.length).2) else if o.kind = 6 then (decide (S.text.1 = o.lets), S.text.2) else (true, S)
set_option maxRecDepth 100000 in
set_option maxHeartbeats 1000000 in
theorem finds_any {w : World} (hT : Lib.Utf8Tabs 0 1 w) {a : Nat} {S : RSt} {rb : Value} (h : IsR 130 w a S rb) (o : OpP) (ho : o.Fits) {vb : Value} (hb : Rd w vb (o.b.map byteV)) (hab : o.b = [] ∨ vb.ownBlock ≠ some a) (hrl : (S.raw o.b.length).1.length ≤ maxLen) :
    Calls Tryd.prog 102 #[.pointer (some ⟨a, 0, none⟩), opV o vb] w (FindsPost w a rb (S.finds o).1 (S.finds o).2) := by
  unfold RSt.finds
  by_cases h1 : o.kind = 1
  · rw [if_pos h1]
    exact finds1 h o h1 hb
  by_cases h2 : o.kind = 2
  · rw [if_neg h1, if_pos h2]
    exact finds2 h o h2 hb
  by_cases h3 : o.kind = 3
  · rw [if_neg h1, if_neg h2, if_pos h3]
    exact finds3 h o h3 hb
  by_cases h4 : o.kind = 4
  · rw [if_neg h1, if_neg h2, if_neg h3, if_pos h4]
    exact finds4 h o h4 hb
  by_cases h5 : o.kind = 5
  · rw [if_neg h1, if_neg h2, if_neg h3, if_neg h4, if_pos h5]
    exact finds5 h o h5 ho hb hab hrl
  by_cases h6 : o.kind = 6
  · rw [if_neg h1, if_neg h2, if_neg h3, if_neg h4, if_neg h5, if_pos h6]
    exact finds6 hT h o h6 ho hb
  rw [if_neg h1, if_neg h2, if_neg h3, if_neg h4, if_neg h5, if_neg h6]
  have HR := Lib.hid (fun (x : Obj) => RPost.behind ((Mods.refl [] w).alloc x) (RPost.self (h.still ((Mods.refl [] w).alloc x))))
  obtain ⟨A, c, hvb, -⟩ := hb
  rw [List.length_map] at hvb
  subst hvb
  clear h hT ho hab hrl
  obtain ⟨who, kind, n, k, b, s⟩ := o
  simp only [opV] at *
  have e1 : (kind == 1) = false := by simpa using h1
  have e2 : (kind == 2) = false := by simpa using h2
  have e3 : (kind == 3) = false := by simpa using h3
  have e4 : (kind == 4) = false := by simpa using h4
  have e5 : (kind == 5) = false := by simpa using h5
  have e6 : (kind == 6) = false := by simpa using h6
  clear h1 h2 h3 h4 h5 h6
  go_enter Tryd.func102, Tryd.ntmps102
  go_wp2_with fail
  go_ret
  exact ⟨rfl, HR.out _⟩
end Go.Proofs.YtedddekkbgaolaaDoor
