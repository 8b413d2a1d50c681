/- A record as an argument: what is handed in is a record of the plain kind, within its bounds; it reads behind as ahead. -/
import Derived.Test.YtedddekkbgaolaaDoorSp
import Derived.Test.YtedddekkbgaolaaDoorOg
namespace Go.Proofs.YtedddekkbgaolaaDoor
open Go.RowKit Go.ChangeShapes Go.WideShapes Me

theorem cellsOf90 : Tryd.prog.cellsOf 90 = 13 := by kernel_rfl
theorem cellsOf88 : Tryd.prog.cellsOf 88 = 3 := by kernel_rfl
theorem cellsOf83 : Tryd.prog.cellsOf 83 = 1 := by kernel_rfl
theorem cellsOf86 : Tryd.prog.cellsOf 86 = 1 := by kernel_rfl
def statD {H : Type} (s : StatP) : DataW H := .agg [.lit (.int .u16 (s.typ : Int)), .lit (.int .u32 (s.dev : Int)), .agg [.lit (.int .u8 (s.qid.kind : Int)), .lit (.int .u32 (s.qid.vers : Int)), .lit (.int .u64 (s.qid.path : Int))],
  .lit (.int .u32 (s.mode : Int)), .lit (.int .u32 (s.atime : Int)), .lit (.int .u32 (s.mtime : Int)), .lit (.int .u64 (s.length : Int)),
  .lit (.string s.name.data.toList), .lit (.string s.uid.data.toList), .lit (.string s.gid.data.toList), .lit (.string s.muid.data.toList)]
section
variable {H : Type} {enc : TypeId × Value → H} {w : World} {base : Nat} {spare : Nat → Bool} {held : Bool}
set_option maxRecDepth 100000 in
theorem open_qid_cells {fuel : Nat} {cs : List Value} {x : DataW H × List MemPlace} (h : DataW.trod enc Tryd.prog w base spare held fuel 88 cs = some x) :
    ∃ q : QidP, cs = (qidV q).toList ∧ q.Fits ∧ x = (.agg [.lit (.int .u8 (q.kind : Int)), .lit (.int .u32 (q.vers : Int)), .lit (.int .u64 (q.path : Int))], []) := by
  obtain ⟨xs, n, _, hx, hlen, hxl, hf⟩ := DataW.trod_struct Tryd.underlying88 h
  rw [cellsOf88] at hlen
  match cs, hlen, xs, hxl with
  | [c0, c1, c2], _, [y0, y1, y2], _ =>
    have g0 : DataW.trod enc Tryd.prog w base spare held n 5 [c0] = some y0 := by
      have g := hf 0 _ rfl
      change DataW.trod enc Tryd.prog w base spare held n 5 (List.take (Tryd.prog.cellsOf 5) _) = _ at g
      rw [cellsOf5] at g
      exact g
    have g1 : DataW.trod enc Tryd.prog w base spare held n 86 [c1] = some y1 := by
      have g := hf 1 _ rfl
      change DataW.trod enc Tryd.prog w base spare held n 86 (List.take (Tryd.prog.cellsOf 86) _) = _ at g
      rw [cellsOf86] at g
      exact g
    have g2 : DataW.trod enc Tryd.prog w base spare held n 46 [c2] = some y2 := by
      have g := hf 2 _ rfl
      change DataW.trod enc Tryd.prog w base spare held n 46 (List.take (Tryd.prog.cellsOf 46) _) = _ at g
      rw [cellsOf46] at g
      exact g
    obtain ⟨n0, e0, rfl, w0⟩ := DataW.trod_int Tryd.underlying5 g0
    obtain ⟨n1, e1, rfl, w1⟩ := DataW.trod_int Tryd.underlying86 g1
    obtain ⟨n2, e2, rfl, w2⟩ := DataW.trod_int Tryd.underlying46 g2
    obtain ⟨m0, rfl, b0⟩ := nat_u8 w0
    obtain ⟨m1, rfl, b1⟩ := nat_u32 w1
    obtain ⟨m2, rfl, b2⟩ := nat_u64 w2
    simp only [List.cons.injEq, and_true] at e0 e1 e2
    subst e0
    subst e1
    subst e2
    exact ⟨⟨m0, m1, m2⟩, rfl, ⟨b0, b1, b2⟩, hx⟩
set_option maxRecDepth 100000 in
theorem open_stat_cells {fuel : Nat} {cs : List Value} {x : DataW H × List MemPlace} (h : DataW.trod enc Tryd.prog w base spare held fuel 90 cs = some x) :
    ∃ s : StatP, cs = (statV s).toList ∧ s.Fits ∧ x = (statD s, []) := by
  obtain ⟨xs, n, _, hx, hlen, hxl, hf⟩ := DataW.trod_struct Tryd.underlying90 h
  rw [cellsOf90] at hlen
  match cs, hlen, xs, hxl with
  | [c0, c1, c2, c3, c4, c5, c6, c7, c8, c9, c10, c11, c12], _, [y0, y1, y2, y3, y4, y5, y6, y7, y8, y9, y10], _ =>
    have g0 : DataW.trod enc Tryd.prog w base spare held n 83 [c0] = some y0 := by
      have g := hf 0 _ rfl
      change DataW.trod enc Tryd.prog w base spare held n 83 (List.take (Tryd.prog.cellsOf 83) _) = _ at g
      rw [cellsOf83] at g
      exact g
    have g1 : DataW.trod enc Tryd.prog w base spare held n 86 [c1] = some y1 := by
      have g := hf 1 _ rfl
      change DataW.trod enc Tryd.prog w base spare held n 86 (List.take (Tryd.prog.cellsOf 86) _) = _ at g
      rw [cellsOf86] at g
      exact g
    have g2 : DataW.trod enc Tryd.prog w base spare held n 88 [c2, c3, c4] = some y2 := by
      have g := hf 2 _ rfl
      change DataW.trod enc Tryd.prog w base spare held n 88 (List.take (Tryd.prog.cellsOf 88) _) = _ at g
      rw [cellsOf88] at g
      exact g
    have g3 : DataW.trod enc Tryd.prog w base spare held n 86 [c5] = some y3 := by
      have g := hf 3 _ rfl
      change DataW.trod enc Tryd.prog w base spare held n 86 (List.take (Tryd.prog.cellsOf 86) _) = _ at g
      rw [cellsOf86] at g
      exact g
    have g4 : DataW.trod enc Tryd.prog w base spare held n 86 [c6] = some y4 := by
      have g := hf 4 _ rfl
      change DataW.trod enc Tryd.prog w base spare held n 86 (List.take (Tryd.prog.cellsOf 86) _) = _ at g
      rw [cellsOf86] at g
      exact g
    have g5 : DataW.trod enc Tryd.prog w base spare held n 86 [c7] = some y5 := by
      have g := hf 5 _ rfl
      change DataW.trod enc Tryd.prog w base spare held n 86 (List.take (Tryd.prog.cellsOf 86) _) = _ at g
      rw [cellsOf86] at g
      exact g
    have g6 : DataW.trod enc Tryd.prog w base spare held n 46 [c8] = some y6 := by
      have g := hf 6 _ rfl
      change DataW.trod enc Tryd.prog w base spare held n 46 (List.take (Tryd.prog.cellsOf 46) _) = _ at g
      rw [cellsOf46] at g
      exact g
    have g7 : DataW.trod enc Tryd.prog w base spare held n 9 [c9] = some y7 := by
      have g := hf 7 _ rfl
      change DataW.trod enc Tryd.prog w base spare held n 9 (List.take (Tryd.prog.cellsOf 9) _) = _ at g
      rw [cellsOf9] at g
      exact g
    have g8 : DataW.trod enc Tryd.prog w base spare held n 9 [c10] = some y8 := by
      have g := hf 8 _ rfl
      change DataW.trod enc Tryd.prog w base spare held n 9 (List.take (Tryd.prog.cellsOf 9) _) = _ at g
      rw [cellsOf9] at g
      exact g
    have g9 : DataW.trod enc Tryd.prog w base spare held n 9 [c11] = some y9 := by
      have g := hf 9 _ rfl
      change DataW.trod enc Tryd.prog w base spare held n 9 (List.take (Tryd.prog.cellsOf 9) _) = _ at g
      rw [cellsOf9] at g
      exact g
    have g10 : DataW.trod enc Tryd.prog w base spare held n 9 [c12] = some y10 := by
      have g := hf 10 _ rfl
      change DataW.trod enc Tryd.prog w base spare held n 9 (List.take (Tryd.prog.cellsOf 9) _) = _ at g
      rw [cellsOf9] at g
      exact g
    obtain ⟨n0, e0, rfl, w0⟩ := DataW.trod_int Tryd.underlying83 g0
    obtain ⟨n1, e1, rfl, w1⟩ := DataW.trod_int Tryd.underlying86 g1
    obtain ⟨q, e2, qf, rfl⟩ := open_qid_cells g2
    obtain ⟨n3, e3, rfl, w3⟩ := DataW.trod_int Tryd.underlying86 g3
    obtain ⟨n4, e4, rfl, w4⟩ := DataW.trod_int Tryd.underlying86 g4
    obtain ⟨n5, e5, rfl, w5⟩ := DataW.trod_int Tryd.underlying86 g5
    obtain ⟨n6, e6, rfl, w6⟩ := DataW.trod_int Tryd.underlying46 g6
    obtain ⟨s7, e7, rfl, _⟩ := DataW.trod_string Tryd.underlying9 g7
    obtain ⟨s8, e8, rfl, _⟩ := DataW.trod_string Tryd.underlying9 g8
    obtain ⟨s9, e9, rfl, _⟩ := DataW.trod_string Tryd.underlying9 g9
    obtain ⟨s10, e10, rfl, _⟩ := DataW.trod_string Tryd.underlying9 g10
    obtain ⟨m0, rfl, b0⟩ := nat_u16 w0
    obtain ⟨m1, rfl, b1⟩ := nat_u32 w1
    obtain ⟨m3, rfl, b3⟩ := nat_u32 w3
    obtain ⟨m4, rfl, b4⟩ := nat_u32 w4
    obtain ⟨m5, rfl, b5⟩ := nat_u32 w5
    obtain ⟨m6, rfl, b6⟩ := nat_u64 w6
    simp only [qidV, List.cons.injEq, and_true] at e0 e1 e2 e3 e4 e5 e6 e7 e8 e9 e10
    subst e0
    subst e1
    obtain ⟨e21, e22, e23⟩ := e2
    subst e21
    subst e22
    subst e23
    subst e3
    subst e4
    subst e5
    subst e6
    subst e7
    subst e8
    subst e9
    subst e10
    exact ⟨⟨m0, m1, q, m3, m4, m5, m6, s7, s8, s9, s10⟩, rfl, ⟨b0, b1, qf, b3, b4, b5, b6⟩, hx⟩
set_option maxRecDepth 100000 in
theorem open_stat {r : Reach} {b0 : Nat} {v : Value} {d : DataW H} {p : List MemPlace} (hv : Value.okWide Tryd.prog w r b0 90 v) (h : DataW.Trod enc Tryd.prog w base spare held 90 v d p) :
    ∃ s : StatP, v = .agg (statV s) ∧ s.Fits ∧ d = statD s ∧ p = [] := by
  obtain ⟨cs, rfl, hsz⟩ := okWide_struct Tryd.underlying90 hv
  obtain ⟨fuel, hf⟩ := h
  obtain ⟨s, h1, h2, h3⟩ := open_stat_cells hf
  simp only [Prod.mk.injEq] at h3
  obtain ⟨l⟩ := cs
  have h1' : l = (statV s).toList := h1
  exact ⟨s, by rw [h1'], h2, h3.1, h3.2⟩
set_option maxRecDepth 100000 in
theorem sized_stat {ts : List TypeId} {ds : List (DataW H)} (h : (DataW.weightsEach Tryd.prog ts ds).all (· ≤ reachBytes) = true) {j : Nat} {s : StatP} (ht : ts[j]? = some 90) (hd : ds[j]? = some (statD s)) : s.size ≤ 600000000000000 := by
  have key : ∀ t : ByteArray, t ∈ s.texts → t.size ≤ reachBytes := by
    intro t hm
    have := List.all_eq_true.1 h _ (DataW.weights_mem_each ht hd t.size (by
      simp only [StatP.texts, List.mem_cons, List.not_mem_nil, or_false] at hm
      simp only [statD, DataW.weights, Tryd.underlying90, Tryd.underlying88, DataW.weightsEach, List.map_cons, List.map_nil, List.nil_append, List.append_nil, List.cons_append, List.mem_cons, List.not_mem_nil, or_false, Array.length_toList, ByteArray.size_data]
      rcases hm with rfl | rfl | rfl | rfl
      · exact Or.inl rfl
      · exact Or.inr (Or.inl rfl)
      · exact Or.inr (Or.inr (Or.inl rfl))
      · exact Or.inr (Or.inr (Or.inr rfl))))
    simpa using this
  have k1 := key s.name (by simp [StatP.texts])
  have k2 := key s.uid (by simp [StatP.texts])
  have k3 := key s.gid (by simp [StatP.texts])
  have k4 := key s.muid (by simp [StatP.texts])
  unfold reachBytes at k1 k2 k3 k4
  unfold StatP.size
  omega
end
end Go.Proofs.YtedddekkbgaolaaDoor
