/- A script as an argument: what is handed in is a slice of steps, each within its bounds; a list of bytes as an argument. -/
import Derived.Test.YtedddekkbgaolaaDoorSc
import Derived.Test.YtedddekkbgaolaaDoorOg
import Derived.Deep.Slices
namespace Go.Proofs.YtedddekkbgaolaaDoor
open Go.RowKit Go.ChangeShapes Go.WideShapes Go.Deep Me

theorem cellsOf48 : Tryd.prog.cellsOf 48 = 6 := by kernel_rfl
theorem cellsOf43 : Tryd.prog.cellsOf 43 = 1 := by kernel_rfl
theorem cellsOf3 : Tryd.prog.cellsOf 3 = 1 := by kernel_rfl
theorem bytesOf5 : Tryd.prog.bytesOf 5 = 1 := by kernel_rfl
theorem bytesOf48 : Tryd.prog.bytesOf 48 = 72 := by kernel_rfl
theorem wAll_mem {H : Type} {P : Program} {e : TypeId} : ∀ {l : List (DataW H)} {d : DataW H}, d ∈ l → ∀ n ∈ d.weights P e, n ∈ DataW.weightsAll P e l
  | x :: l, d, hd, n, hn => by
    rw [DataW.weightsAll]
    rcases List.mem_cons.1 hd with rfl | hd
    · exact List.mem_append_left _ hn
    · exact List.mem_append_right _ (wAll_mem hd n hn)
section
variable {H : Type} {enc : TypeId × Value → H} {w : World} {base : Nat} {spare : Nat → Bool} {held : Bool}
def byteOf (z : Int) : UInt8 := UInt8.ofNat z.toNat
theorem byteV_byteOf {z : Int} (h : (Lit.int .u8 z).wf = true) : byteV (byteOf z) = .int .u8 z := by
  obtain ⟨h1, h2⟩ := bounds_u8 h
  unfold byteV byteOf
  congr 1
  simp only [UInt8.toNat_ofNat']
  omega
/-- A list of bytes, read out of the world. -/
theorem open_bytes_cells {fuel : Nat} {c : Value} {x : DataW H × List MemPlace} (h : DataW.trod enc Tryd.prog w base spare held fuel 43 [c] = some x) :
    ∃ l : List UInt8, Rd w c (l.map byteV) ∧ ∃ n ∈ x.1.weights Tryd.prog 43 ++ [0], l.length ≤ n := by
  rcases open_ints Tryd.underlying43 Tryd.underlying5 cellsOf5 h with ⟨hcs, hx⟩ | ⟨a', len', cap', zs, hcs, hb, hl, hm, hlen, hx, hcell, hwf⟩
  · simp only [List.cons.injEq, and_true] at hcs
    subst hcs
    exact ⟨[], ⟨none, 0, rfl, Nat.le_refl _, by decide, fun j u hu => by simp at hu⟩, 0, by simp, by simp⟩
  · simp only [List.cons.injEq, and_true] at hcs
    subst hcs
    have hlz : len' ≤ zs.length := by rw [hlen]; split <;> omega
    refine ⟨(zs.take len').map byteOf, ⟨some a', cap', by simp; omega, by simp; omega, hm, fun j u hu => ?_⟩, ((zs.take len').length + (zs.drop len').length) * 1, ?_, by simp⟩
    · rw [List.map_map, List.getElem?_map] at hu
      obtain ⟨z, hz, rfl⟩ := Option.map_eq_some_iff.1 hu
      obtain ⟨hj, hz'⟩ := List.getElem?_eq_some_iff.1 hz
      rw [List.length_take] at hj
      obtain ⟨b, off, rfl, hc⟩ := ints_at hcell (by omega)
      refine ⟨b, off, rfl, ?_⟩
      have hzz : zs.getD j 0 = z := by rw [← hz', List.getElem_take]; simp [show j < zs.length by omega]
      rw [hc j (by omega), hzz, Function.comp, byteV_byteOf (hwf z (List.mem_of_mem_take (List.mem_of_getElem? hz)))]
    · refine List.mem_append_left _ ?_
      rw [hx]
      simp only [DataW.weights, Tryd.underlying43, bytesOf5, List.mem_cons]
      refine Or.inl ?_
      simp [lits]
set_option maxRecDepth 100000 in
theorem open_op_cells {fuel : Nat} {cs : List Value} {x : DataW H × List MemPlace} (h : DataW.trod enc Tryd.prog w base spare held fuel 48 cs = some x) (hs : ∀ n ∈ x.1.weights Tryd.prog 48, n ≤ reachBytes) :
    ∃ p : OpP × Value, cs = opC p.1 p.2 ∧ OpIn w p := by
  obtain ⟨xs, n, _, hx, hlen, hxl, hf⟩ := DataW.trod_struct Tryd.underlying48 h
  rw [cellsOf48] at hlen
  match cs, hlen, xs, hxl with
  | [c0, c1, c2, c3, c4, c5], _, [y0, y1, y2, y3, y4, y5], _ =>
    have g0 : DataW.trod enc Tryd.prog w base spare held n 3 [c0] = some y0 := by
      have g := hf 0 _ rfl
      change DataW.trod enc Tryd.prog w base spare held n 3 (List.take (Tryd.prog.cellsOf 3) _) = _ at g
      rw [cellsOf3] at g
      exact g
    have g1 : DataW.trod enc Tryd.prog w base spare held n 3 [c1] = some y1 := by
      have g := hf 1 _ rfl
      change DataW.trod enc Tryd.prog w base spare held n 3 (List.take (Tryd.prog.cellsOf 3) _) = _ at g
      rw [cellsOf3] at g
      exact g
    have g2 : DataW.trod enc Tryd.prog w base spare held n 46 [c2] = some y2 := by
      have g := hf 2 _ rfl
      change DataW.trod enc Tryd.prog w base spare held n 46 (List.take (Tryd.prog.cellsOf 46) _) = _ at g
      rw [cellsOf46] at g
      exact g
    have g3 : DataW.trod enc Tryd.prog w base spare held n 3 [c3] = some y3 := by
      have g := hf 3 _ rfl
      change DataW.trod enc Tryd.prog w base spare held n 3 (List.take (Tryd.prog.cellsOf 3) _) = _ at g
      rw [cellsOf3] at g
      exact g
    have g4 : DataW.trod enc Tryd.prog w base spare held n 43 [c4] = some y4 := by
      have g := hf 4 _ rfl
      change DataW.trod enc Tryd.prog w base spare held n 43 (List.take (Tryd.prog.cellsOf 43) _) = _ at g
      rw [cellsOf43] at g
      exact g
    have g5 : DataW.trod enc Tryd.prog w base spare held n 9 [c5] = some y5 := by
      have g := hf 5 _ rfl
      change DataW.trod enc Tryd.prog w base spare held n 9 (List.take (Tryd.prog.cellsOf 9) _) = _ at g
      rw [cellsOf9] at g
      exact g
    obtain ⟨n0, e0, rfl, w0⟩ := DataW.trod_int Tryd.underlying3 g0
    obtain ⟨n1, e1, rfl, w1⟩ := DataW.trod_int Tryd.underlying3 g1
    obtain ⟨n2, e2, rfl, w2⟩ := DataW.trod_int Tryd.underlying46 g2
    obtain ⟨n3, e3, rfl, w3⟩ := DataW.trod_int Tryd.underlying3 g3
    obtain ⟨l, hl, m, hm, hlm⟩ := open_bytes_cells g4
    obtain ⟨s5, e5, hy5, _⟩ := DataW.trod_string Tryd.underlying9 g5
    obtain ⟨m2, rfl, b2⟩ := nat_u64 w2
    have b0 := bounds_i64 w0
    have b1 := bounds_i64 w1
    have b3 := bounds_i64 w3
    simp only [List.cons.injEq, and_true] at e0 e1 e2 e3 e5
    subst e0
    subst e1
    subst e2
    subst e3
    subst e5
    have hw : ∀ k ∈ y4.1.weights Tryd.prog 43 ++ y5.1.weights Tryd.prog 9, k ≤ reachBytes := fun k hk => hs k (by
      rw [hx]
      simp only [List.map_cons, List.map_nil, DataW.weights, Tryd.underlying48, DataW.weightsEach, List.nil_append, List.append_nil]
      exact hk)
    refine ⟨(⟨n0, n1, m2, n3, l, s5⟩, c4), rfl, ⟨by simpa using b0, by simpa using b1, b2, by simpa using b3, ?_, ?_⟩, hl⟩
    · have : m ≤ reachBytes := by
        rcases List.mem_append.1 hm with h | h
        · exact hw m (List.mem_append_left _ h)
        · simp at h
          omega
      unfold reachBytes at this
      show l.length ≤ _
      omega
    · have := hw s5.data.toList.length (List.mem_append_right _ (by rw [hy5]; simp [DataW.weights]))
      unfold reachBytes at this
      rw [size_list] at this
      show s5.size ≤ _
      omega
set_option maxRecDepth 100000 in
/-- A script as an argument. -/
theorem open_script {r : Reach} {b0 : Nat} {v : Value} {d : DataW H} {ps : List MemPlace} (hv : Value.okWide Tryd.prog w r b0 30 v) (h : DataW.Trod enc Tryd.prog w 0 (fun _ => true) true 30 v d ps)
    {ts : List TypeId} {ds : List (DataW H)} (hsz : (DataW.weightsEach Tryd.prog ts ds).all (· ≤ reachBytes) = true) {j : Nat} (ht : ts[j]? = some 30) (hd : ds[j]? = some d) :
    ∃ L : List (OpP × Value), Ops w v L ∧ (∀ p ∈ L, OpIn w p) ∧ L.length ≤ 70000000000000 := by
  obtain ⟨a, len, cap, rfl⟩ := okWide_slice Tryd.underlying30 hv
  obtain ⟨fuel, hf⟩ := h
  have hw : ∀ n ∈ d.weights Tryd.prog 30, n ≤ reachBytes := fun n hn => by
    have := List.all_eq_true.1 hsz _ (DataW.weights_mem_each ht hd n hn)
    simpa using this
  rcases open_slice Tryd.underlying30 hf with ⟨hcs, hx⟩ | ⟨a', len', cap', m, n, D, Pl, hcs, hb, hl, hm, hmm, hx, hi⟩
  · simp only [Value.cells, List.cons.injEq, and_true, Value.slice.injEq] at hcs
    obtain ⟨rfl, rfl, rfl⟩ := hcs
    exact ⟨[], ⟨none, 0, rfl, Nat.le_refl _, by decide, fun i p hp => by simp at hp⟩, by simp, by simp⟩
  · simp only [Value.cells, List.cons.injEq, and_true, Value.slice.injEq] at hcs
    obtain ⟨rfl, rfl, rfl⟩ := hcs
    simp only [if_true] at hmm
    subst hmm
    simp only [Prod.mk.injEq] at hx
    obtain ⟨hx, -⟩ := hx
    rw [hx] at hw
    simp only [DataW.weights, Tryd.underlying30, bytesOf48, List.mem_cons, List.mem_append] at hw
    have key : ∀ i, i < len → ∃ p : OpP × Value, w.cells? 0 (a'.add (i * 6)) 6 = some (opC p.1 p.2) ∧ OpIn w p := by
      intro i hil
      obtain ⟨cs, h1, h2⟩ := hi i (by omega)
      rw [cellsOf48] at h1
      obtain ⟨p, rfl, hp⟩ := open_op_cells h2 (fun k hk => hw k (Or.inr (Or.inl (wAll_mem (List.mem_map.2 ⟨i, List.mem_range.2 hil, rfl⟩) k hk))))
      exact ⟨p, h1, hp⟩
    have hlen : (len + (m - len)) * 72 ≤ reachBytes := hw _ (Or.inl (by simp))
    have ex : ∃ F : Nat → OpP × Value, ∀ i, i < len → w.cells? 0 (a'.add (i * 6)) 6 = some (opC (F i).1 (F i).2) ∧ OpIn w (F i) := by
      refine ⟨fun i => if h : i < len then (key i h).choose else (⟨0, 0, 0, 0, [], ⟨#[]⟩⟩, .slice none 0 0), fun i hil => ?_⟩
      simp only [hil, dif_pos]
      exact (key i hil).choose_spec
    obtain ⟨F, hF⟩ := ex
    refine ⟨(List.range len).map F, ⟨some a', m, by simp, by simpa using hl, hm, fun i p hp => ?_⟩, fun p hp => ?_, ?_⟩
    · rw [List.getElem?_map] at hp
      obtain ⟨i', hi', rfl⟩ := Option.map_eq_some_iff.1 hp
      have hil : i < len := by have := (List.getElem?_eq_some_iff.1 hi').1; simpa using this
      have hii : i' = i := by
        have := (List.getElem?_eq_some_iff.1 hi').2
        simpa using this.symm
      subst hii
      obtain ⟨-, -, hc⟩ := World.cells?_some (hF i' hil).1
      obtain ⟨g, off, spot⟩ := a'
      have hspot : spot = none := by
        obtain ⟨-, -, hc0⟩ := World.cells?_some (hF 0 (by omega)).1
        have := hc0 0 (by omega)
        simp only [opC, List.getElem?_cons_zero] at this
        have hsp := World.cell?_spot this
        simpa [Addr.add] using hsp
      subst hspot
      refine ⟨g, off, rfl, fun j u hu => ?_⟩
      have hj : j < 6 := by have := (List.getElem?_eq_some_iff.1 hu).1; rwa [opC_len] at this
      have := hc j hj
      rw [hu, Go.WideShapes.add_plain, Go.WideShapes.add_plain] at this
      exact this
    · obtain ⟨i, hi', rfl⟩ := List.mem_map.1 hp
      exact (hF i (List.mem_range.1 hi')).2
    · simp
      unfold reachBytes at hlen
      omega
end
end Go.Proofs.YtedddekkbgaolaaDoor
