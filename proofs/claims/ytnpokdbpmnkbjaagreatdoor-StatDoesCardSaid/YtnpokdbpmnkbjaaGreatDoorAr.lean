/- The arguments of StatDoes: a script is a slice of steps, each within its bounds; what is readable reads behind as ahead (printed by wip/bin/genar.py). -/
import Derived.Test.YtnpokdbpmnkbjaaGreatDoorWrap
import Derived.Test.YtnpokdbpmnkbjaaGreatDoorWe
import Derived.SizedLaws
import Derived.Deep.Slices
namespace Go.Proofs.YtnpokdbpmnkbjaaGreatDoor
open Go.RowKit Go.ChangeShapes Go.WideShapes Go.Deep Me

theorem cellsOf35 : Tryz.prog.cellsOf 35 = 13 := by kernel_rfl
theorem cellsOf32 : Tryz.prog.cellsOf 32 = 3 := by kernel_rfl
theorem cellsOf33 : Tryz.prog.cellsOf 33 = 1 := by kernel_rfl
theorem cellsOf29 : Tryz.prog.cellsOf 29 = 1 := by kernel_rfl
def statDW {H : Type} (s : StatP) : DataW H := .agg [.lit (.int .u16 (s.typ : Int)), .lit (.int .u32 (s.dev : Int)), .agg [.lit (.int .u8 (s.qid.kind : Int)), .lit (.int .u32 (s.qid.vers : Int)), .lit (.int .u64 (s.qid.path : Int))],
  .lit (.int .u32 (s.mode : Int)), .lit (.int .u32 (s.atime : Int)), .lit (.int .u32 (s.mtime : Int)), .lit (.int .u64 (s.length : Int)),
  .lit (.string s.name.data.toList), .lit (.string s.uid.data.toList), .lit (.string s.gid.data.toList), .lit (.string s.muid.data.toList)]
theorem cellsOf40 : Tryz.prog.cellsOf 40 = 33 := by kernel_rfl
theorem cellsOf37 : Tryz.prog.cellsOf 37 = 1 := by kernel_rfl
theorem cellsOf38 : Tryz.prog.cellsOf 38 = 1 := by kernel_rfl
theorem cellsOf3 : Tryz.prog.cellsOf 3 = 1 := by kernel_rfl
theorem bytesOf5 : Tryz.prog.bytesOf 5 = 1 := by kernel_rfl
theorem wAll_mem {H : Type} {P : Program} {e : TypeId} : ∀ {l : List (DataW H)} {d : DataW H}, d ∈ l → ∀ n ∈ d.weights P e, n ∈ DataW.weightsAll P e l
  | x :: l, d, hd, n, hn => by
    rw [DataW.weightsAll]
    rcases List.mem_cons.1 hd with rfl | hd
    · exact List.mem_append_left _ hn
    · exact List.mem_append_right _ (wAll_mem hd n hn)
theorem Tryz.laidOut : laidOutB Tryz.prog = true := by kernel_rfl
theorem cellsOf30 : Tryz.prog.cellsOf 30 = 1 := by kernel_rfl
theorem cellsOf9 : Tryz.prog.cellsOf 9 = 1 := by kernel_rfl
theorem cellsOf5 : Tryz.prog.cellsOf 5 = 1 := by kernel_rfl
section
variable {H : Type} {enc : TypeId × Value → H} {w : World} {base : Nat} {spare : Nat → Bool} {held : Bool}
theorem nat_u16 {n : Int} (h : (Lit.int .u16 n).wf = true) : ∃ m : Nat, n = (m : Int) ∧ m < 65536 := by
  obtain ⟨h1, h2⟩ := bounds_u16 h
  exact ⟨n.toNat, by omega, by omega⟩
theorem nat_u32 {n : Int} (h : (Lit.int .u32 n).wf = true) : ∃ m : Nat, n = (m : Int) ∧ m < 4294967296 := by
  obtain ⟨h1, h2⟩ := bounds_u32 h
  exact ⟨n.toNat, by omega, by omega⟩
theorem nat_u8 {n : Int} (h : (Lit.int .u8 n).wf = true) : ∃ m : Nat, n = (m : Int) ∧ m < 256 := by
  obtain ⟨h1, h2⟩ := bounds_u8 h
  exact ⟨n.toNat, by omega, by omega⟩
theorem nat_u64 {n : Int} (h : (Lit.int .u64 n).wf = true) : ∃ m : Nat, n = (m : Int) ∧ m < 18446744073709551616 := by
  obtain ⟨h1, h2⟩ := bounds_u64 h
  exact ⟨n.toNat, by omega, by omega⟩
set_option maxRecDepth 100000 in
theorem shut_stays {t : TypeId} (hr : Tryz.prog.readableRec t = true) (hrow : t < Tryz.prog.types.size) {W W' : World} {sp : Nat → Bool} {v : Value} {d : DataW H} {ps : List MemPlace}
    (h : DataW.Trod enc Tryz.prog W base (fun _ => true) true t v d ps) (hb : Below W.heap.size W W') (hlt : ∀ p ∈ ps, p.block < W.heap.size) (hs : ∀ p ∈ ps, sp p.block = true) : DataW.Trod enc Tryz.prog W' base sp true t v d ps :=
  WideElems.Trod_stays Tryz.laidOut hr hrow h (fun p hp => hb.same (hlt p hp)) hs
set_option maxRecDepth 100000 in
theorem open_qid_cells {fuel : Nat} {cs : List Value} {x : DataW H × List MemPlace} (h : DataW.trod enc Tryz.prog w base spare held fuel 32 cs = some x) :
    ∃ q : QidP, cs = (qidV q).toList ∧ q.Fits ∧ x = (.agg [.lit (.int .u8 (q.kind : Int)), .lit (.int .u32 (q.vers : Int)), .lit (.int .u64 (q.path : Int))], []) := by
  obtain ⟨xs, n, _, hx, hlen, hxl, hf⟩ := DataW.trod_struct Tryz.underlying32 h
  rw [cellsOf32] at hlen
  match cs, hlen, xs, hxl with
  | [c0, c1, c2], _, [y0, y1, y2], _ =>
    have g0 : DataW.trod enc Tryz.prog w base spare held n 5 [c0] = some y0 := by
      have g := hf 0 _ rfl
      change DataW.trod enc Tryz.prog w base spare held n 5 (List.take (Tryz.prog.cellsOf 5) _) = _ at g
      rw [cellsOf5] at g
      exact g
    have g1 : DataW.trod enc Tryz.prog w base spare held n 29 [c1] = some y1 := by
      have g := hf 1 _ rfl
      change DataW.trod enc Tryz.prog w base spare held n 29 (List.take (Tryz.prog.cellsOf 29) _) = _ at g
      rw [cellsOf29] at g
      exact g
    have g2 : DataW.trod enc Tryz.prog w base spare held n 30 [c2] = some y2 := by
      have g := hf 2 _ rfl
      change DataW.trod enc Tryz.prog w base spare held n 30 (List.take (Tryz.prog.cellsOf 30) _) = _ at g
      rw [cellsOf30] at g
      exact g
    obtain ⟨n0, e0, rfl, w0⟩ := DataW.trod_int Tryz.underlying5 g0
    obtain ⟨n1, e1, rfl, w1⟩ := DataW.trod_int Tryz.underlying29 g1
    obtain ⟨n2, e2, rfl, w2⟩ := DataW.trod_int Tryz.underlying30 g2
    obtain ⟨m0, rfl, b0⟩ := nat_u8 w0
    obtain ⟨m1, rfl, b1⟩ := nat_u32 w1
    obtain ⟨m2, rfl, b2⟩ := nat_u64 w2
    simp only [List.cons.injEq, and_true] at e0 e1 e2
    subst e0
    subst e1
    subst e2
    exact ⟨⟨m0, m1, m2⟩, rfl, ⟨b0, b1, b2⟩, hx⟩
set_option maxRecDepth 100000 in
theorem open_stat_cells {fuel : Nat} {cs : List Value} {x : DataW H × List MemPlace} (h : DataW.trod enc Tryz.prog w base spare held fuel 35 cs = some x) :
    ∃ s : StatP, cs = (statV s).toList ∧ s.Fits ∧ x = (statDW s, []) := by
  obtain ⟨xs, n, _, hx, hlen, hxl, hf⟩ := DataW.trod_struct Tryz.underlying35 h
  rw [cellsOf35] at hlen
  match cs, hlen, xs, hxl with
  | [c0, c1, c2, c3, c4, c5, c6, c7, c8, c9, c10, c11, c12], _, [y0, y1, y2, y3, y4, y5, y6, y7, y8, y9, y10], _ =>
    have g0 : DataW.trod enc Tryz.prog w base spare held n 33 [c0] = some y0 := by
      have g := hf 0 _ rfl
      change DataW.trod enc Tryz.prog w base spare held n 33 (List.take (Tryz.prog.cellsOf 33) _) = _ at g
      rw [cellsOf33] at g
      exact g
    have g1 : DataW.trod enc Tryz.prog w base spare held n 29 [c1] = some y1 := by
      have g := hf 1 _ rfl
      change DataW.trod enc Tryz.prog w base spare held n 29 (List.take (Tryz.prog.cellsOf 29) _) = _ at g
      rw [cellsOf29] at g
      exact g
    have g2 : DataW.trod enc Tryz.prog w base spare held n 32 [c2, c3, c4] = some y2 := by
      have g := hf 2 _ rfl
      change DataW.trod enc Tryz.prog w base spare held n 32 (List.take (Tryz.prog.cellsOf 32) _) = _ at g
      rw [cellsOf32] at g
      exact g
    have g3 : DataW.trod enc Tryz.prog w base spare held n 29 [c5] = some y3 := by
      have g := hf 3 _ rfl
      change DataW.trod enc Tryz.prog w base spare held n 29 (List.take (Tryz.prog.cellsOf 29) _) = _ at g
      rw [cellsOf29] at g
      exact g
    have g4 : DataW.trod enc Tryz.prog w base spare held n 29 [c6] = some y4 := by
      have g := hf 4 _ rfl
      change DataW.trod enc Tryz.prog w base spare held n 29 (List.take (Tryz.prog.cellsOf 29) _) = _ at g
      rw [cellsOf29] at g
      exact g
    have g5 : DataW.trod enc Tryz.prog w base spare held n 29 [c7] = some y5 := by
      have g := hf 5 _ rfl
      change DataW.trod enc Tryz.prog w base spare held n 29 (List.take (Tryz.prog.cellsOf 29) _) = _ at g
      rw [cellsOf29] at g
      exact g
    have g6 : DataW.trod enc Tryz.prog w base spare held n 30 [c8] = some y6 := by
      have g := hf 6 _ rfl
      change DataW.trod enc Tryz.prog w base spare held n 30 (List.take (Tryz.prog.cellsOf 30) _) = _ at g
      rw [cellsOf30] at g
      exact g
    have g7 : DataW.trod enc Tryz.prog w base spare held n 9 [c9] = some y7 := by
      have g := hf 7 _ rfl
      change DataW.trod enc Tryz.prog w base spare held n 9 (List.take (Tryz.prog.cellsOf 9) _) = _ at g
      rw [cellsOf9] at g
      exact g
    have g8 : DataW.trod enc Tryz.prog w base spare held n 9 [c10] = some y8 := by
      have g := hf 8 _ rfl
      change DataW.trod enc Tryz.prog w base spare held n 9 (List.take (Tryz.prog.cellsOf 9) _) = _ at g
      rw [cellsOf9] at g
      exact g
    have g9 : DataW.trod enc Tryz.prog w base spare held n 9 [c11] = some y9 := by
      have g := hf 9 _ rfl
      change DataW.trod enc Tryz.prog w base spare held n 9 (List.take (Tryz.prog.cellsOf 9) _) = _ at g
      rw [cellsOf9] at g
      exact g
    have g10 : DataW.trod enc Tryz.prog w base spare held n 9 [c12] = some y10 := by
      have g := hf 10 _ rfl
      change DataW.trod enc Tryz.prog w base spare held n 9 (List.take (Tryz.prog.cellsOf 9) _) = _ at g
      rw [cellsOf9] at g
      exact g
    obtain ⟨n0, e0, rfl, w0⟩ := DataW.trod_int Tryz.underlying33 g0
    obtain ⟨n1, e1, rfl, w1⟩ := DataW.trod_int Tryz.underlying29 g1
    obtain ⟨q, e2, qf, rfl⟩ := open_qid_cells g2
    obtain ⟨n3, e3, rfl, w3⟩ := DataW.trod_int Tryz.underlying29 g3
    obtain ⟨n4, e4, rfl, w4⟩ := DataW.trod_int Tryz.underlying29 g4
    obtain ⟨n5, e5, rfl, w5⟩ := DataW.trod_int Tryz.underlying29 g5
    obtain ⟨n6, e6, rfl, w6⟩ := DataW.trod_int Tryz.underlying30 g6
    obtain ⟨s7, e7, rfl, _⟩ := DataW.trod_string Tryz.underlying9 g7
    obtain ⟨s8, e8, rfl, _⟩ := DataW.trod_string Tryz.underlying9 g8
    obtain ⟨s9, e9, rfl, _⟩ := DataW.trod_string Tryz.underlying9 g9
    obtain ⟨s10, e10, rfl, _⟩ := DataW.trod_string Tryz.underlying9 g10
    obtain ⟨m0, rfl, b0⟩ := nat_u16 w0
    obtain ⟨m1, rfl, b1⟩ := nat_u32 w1
    obtain ⟨m3, rfl, b3⟩ := nat_u32 w3
    obtain ⟨m4, rfl, b4⟩ := nat_u32 w4
    obtain ⟨m5, rfl, b5⟩ := nat_u32 w5
    obtain ⟨m6, rfl, b6⟩ := nat_u64 w6
    simp only [qidV, List.cons.injEq, and_true] at e0 e1 e2 e3 e4 e5 e6 e7 e8 e9 e10
    subst e0
    subst e1
    obtain ⟨e21, e22, e23⟩ := e2
    subst e21
    subst e22
    subst e23
    subst e3
    subst e4
    subst e5
    subst e6
    subst e7
    subst e8
    subst e9
    subst e10
    exact ⟨⟨m0, m1, q, m3, m4, m5, m6, s7, s8, s9, s10⟩, rfl, ⟨b0, b1, qf, b3, b4, b5, b6⟩, hx⟩
def byteOf (z : Int) : UInt8 := UInt8.ofNat z.toNat
theorem byteV_byteOf {z : Int} (h : (Lit.int .u8 z).wf = true) : byteV (byteOf z) = .int .u8 z := by
  obtain ⟨h1, h2⟩ := bounds_u8 h
  unfold byteV byteOf
  congr 1
  simp only [UInt8.toNat_ofNat']
  omega
/-- A list of bytes, read out of the world. -/
theorem open_bytes_cells {fuel : Nat} {c : Value} {x : DataW H × List MemPlace} (h : DataW.trod enc Tryz.prog w base spare held fuel 37 [c] = some x) :
    ∃ l : List UInt8, Rd w c (l.map byteV) ∧ ∃ n ∈ x.1.weights Tryz.prog 37 ++ [0], l.length ≤ n := by
  rcases open_ints Tryz.underlying37 Tryz.underlying5 cellsOf5 h with ⟨hcs, hx⟩ | ⟨a', len', cap', zs, hcs, hb, hl, hm, hlen, hx, hcell, hwf⟩
  · simp only [List.cons.injEq, and_true] at hcs
    subst hcs
    exact ⟨[], ⟨none, 0, rfl, Nat.le_refl _, by decide, fun j u hu => by simp at hu⟩, 0, by simp, by simp⟩
  · simp only [List.cons.injEq, and_true] at hcs
    subst hcs
    have hlz : len' ≤ zs.length := by rw [hlen]; split <;> omega
    refine ⟨(zs.take len').map byteOf, ⟨some a', cap', by simp; omega, by simp; omega, hm, fun j u hu => ?_⟩, ((zs.take len').length + (zs.drop len').length) * 1, ?_, by simp⟩
    · rw [List.map_map, List.getElem?_map] at hu
      obtain ⟨z, hz, rfl⟩ := Option.map_eq_some_iff.1 hu
      obtain ⟨hj, hz'⟩ := List.getElem?_eq_some_iff.1 hz
      rw [List.length_take] at hj
      obtain ⟨b, off, rfl, hc⟩ := ints_at hcell (by omega)
      refine ⟨b, off, rfl, ?_⟩
      have hzz : zs.getD j 0 = z := by rw [← hz', List.getElem_take]; simp [show j < zs.length by omega]
      rw [hc j (by omega), hzz, Function.comp, byteV_byteOf (hwf z (List.mem_of_mem_take (List.mem_of_getElem? hz)))]
    · refine List.mem_append_left _ ?_
      rw [hx]
      simp only [DataW.weights, Tryz.underlying37, bytesOf5, List.mem_cons]
      refine Or.inl ?_
      simp [lits]
set_option maxRecDepth 100000 in
/-- A list of records, read out of the world. -/
theorem open_stats_cells {fuel : Nat} {c : Value} {x : DataW H × List MemPlace} (h : DataW.trod enc Tryz.prog w 0 (fun _ => true) true fuel 38 [c] = some x) (hs : ∀ n ∈ x.1.weights Tryz.prog 38, n ≤ reachBytes) :
    ∃ L : List StatP, Sts w c L ∧ ∀ s ∈ L, s.Fits ∧ s.size ≤ 600000000000000 := by
  rcases open_slice Tryz.underlying38 h with ⟨hcs, hx⟩ | ⟨a', len', cap', m, n, D, Pl, hcs, hb, hl, hm, hmm, hx, hi⟩
  · simp only [List.cons.injEq, and_true] at hcs
    subst hcs
    exact ⟨[], ⟨none, 0, rfl, Nat.le_refl _, by decide, fun i s hs => by simp at hs⟩, fun s hs => by cases hs⟩
  · simp only [List.cons.injEq, and_true] at hcs
    subst hcs
    simp only [if_true] at hmm
    subst hmm
    subst hx
    simp only [DataW.weights, Tryz.underlying38, List.mem_cons, List.mem_append] at hs
    have key : ∀ i, i < len' → ∃ s : StatP, w.cells? 0 (a'.add (i * 13)) 13 = some (statV s).toList ∧ s.Fits ∧ s.size ≤ 600000000000000 := by
      intro i hil
      obtain ⟨cs, h1, h2⟩ := hi i (by omega)
      rw [cellsOf35] at h1
      obtain ⟨s, rfl, hfit, hD⟩ := open_stat_cells h2
      simp only [Prod.mk.injEq] at hD
      refine ⟨s, h1, hfit, ?_⟩
      have k : ∀ t : ByteArray, t ∈ s.texts → t.size ≤ reachBytes := by
        intro t hm'
        refine hs t.size (Or.inr (Or.inl (wAll_mem (List.mem_map.2 ⟨i, List.mem_range.2 hil, rfl⟩) t.size ?_)))
        rw [hD.1]
        simp only [StatP.texts, List.mem_cons, List.not_mem_nil, or_false] at hm'
        simp only [statDW, DataW.weights, Tryz.underlying35, Tryz.underlying32, DataW.weightsEach, List.map_cons, List.map_nil, List.nil_append, List.append_nil, List.cons_append, List.mem_cons, List.not_mem_nil, or_false, Array.length_toList, ByteArray.size_data]
        rcases hm' with rfl | rfl | rfl | rfl
        · exact Or.inl rfl
        · exact Or.inr (Or.inl rfl)
        · exact Or.inr (Or.inr (Or.inl rfl))
        · exact Or.inr (Or.inr (Or.inr rfl))
      have k1 := k s.name (by simp [StatP.texts])
      have k2 := k s.uid (by simp [StatP.texts])
      have k3 := k s.gid (by simp [StatP.texts])
      have k4 := k s.muid (by simp [StatP.texts])
      unfold reachBytes at k1 k2 k3 k4
      unfold StatP.size
      omega
    have ex : ∃ F : Nat → StatP, ∀ i, i < len' → w.cells? 0 (a'.add (i * 13)) 13 = some (statV (F i)).toList ∧ (F i).Fits ∧ (F i).size ≤ 600000000000000 := by
      refine ⟨fun i => if h : i < len' then (key i h).choose else StatP.zero, fun i hil => ?_⟩
      simp only [hil, dif_pos]
      exact (key i hil).choose_spec
    obtain ⟨F, hF⟩ := ex
    refine ⟨(List.range len').map F, ⟨some a', m, by simp, by simpa using hl, hm, fun i s hs => ?_⟩, fun s hs => ?_⟩
    · rw [List.getElem?_map] at hs
      obtain ⟨i', hi', rfl⟩ := Option.map_eq_some_iff.1 hs
      have hil : i < len' := by have := (List.getElem?_eq_some_iff.1 hi').1; simpa using this
      have hii : i' = i := by
        have := (List.getElem?_eq_some_iff.1 hi').2
        simpa using this.symm
      subst hii
      obtain ⟨-, -, hc⟩ := World.cells?_some (hF i' hil).1
      obtain ⟨g, off, spot⟩ := a'
      have hspot : spot = none := by
        obtain ⟨-, -, hc0⟩ := World.cells?_some (hF 0 (by omega)).1
        have := hc0 0 (by omega)
        have hsp := World.cell?_spot (this.trans (show (statV (F 0)).toList[0]? = some _ from rfl))
        simpa [Addr.add] using hsp
      subst hspot
      refine ⟨g, off, rfl, fun k u hu => ?_⟩
      have hk : k < 13 := by have := (List.getElem?_eq_some_iff.1 hu).1; rwa [statV_len'] at this
      have := hc k hk
      rw [Go.WideShapes.add_plain, Go.WideShapes.add_plain] at this
      rw [hu] at this
      exact this
    · obtain ⟨i, hi', rfl⟩ := List.mem_map.1 hs
      exact (hF i (List.mem_range.1 hi')).2
/-- What is so of a step that is handed in. -/
structure StP.Arg (w : World) (p : StP) : Prop where
  inn : p.In w
  raw : p.Raw
  sf : p.s.Fits
  tf : p.t.Fits
  n : -9223372036854775808 ≤ p.num ∧ p.num ≤ 9223372036854775807
  lf : ∀ s ∈ p.L, s.Fits
  mf : ∀ s ∈ p.M, s.Fits
theorem stat_sized {s : StatP} (hw : ∀ n ∈ (statDW (H := H) s).weights Tryz.prog 35, n ≤ reachBytes) : s.size ≤ 600000000000000 := by
  have k : ∀ t : ByteArray, t ∈ s.texts → t.size ≤ reachBytes := by
    intro t hm'
    refine hw t.size ?_
    simp only [StatP.texts, List.mem_cons, List.not_mem_nil, or_false] at hm'
    simp only [statDW, DataW.weights, Tryz.underlying35, Tryz.underlying32, DataW.weightsEach, List.map_cons, List.map_nil, List.nil_append, List.append_nil, List.cons_append, List.mem_cons, List.not_mem_nil, or_false, Array.length_toList, ByteArray.size_data]
    rcases hm' with rfl | rfl | rfl | rfl
    · exact Or.inl rfl
    · exact Or.inr (Or.inl rfl)
    · exact Or.inr (Or.inr (Or.inl rfl))
    · exact Or.inr (Or.inr (Or.inr rfl))
  have k1 := k s.name (by simp [StatP.texts])
  have k2 := k s.uid (by simp [StatP.texts])
  have k3 := k s.gid (by simp [StatP.texts])
  have k4 := k s.muid (by simp [StatP.texts])
  unfold reachBytes at k1 k2 k3 k4
  unfold StatP.size
  omega
set_option maxRecDepth 100000 in
set_option maxHeartbeats 4000000 in
theorem open_op_cells {fuel : Nat} {cs : List Value} {x : DataW H × List MemPlace} (h : DataW.trod enc Tryz.prog w 0 (fun _ => true) true fuel 40 cs = some x) (hs : ∀ n ∈ x.1.weights Tryz.prog 40, n ≤ reachBytes) :
    ∃ p : StP, cs = p.v.toList ∧ p.Arg w := by
  obtain ⟨xs, n, _, hx, hlen, hxl, hf⟩ := DataW.trod_struct Tryz.underlying40 h
  rw [cellsOf40] at hlen
  match cs, hlen, xs, hxl with
  | c0 :: c1 :: c2 :: c3 :: c4 :: c5 :: c6 :: c7 :: c8 :: c9 :: c10 :: c11 :: c12 :: c13 :: c14 :: c15 :: c16 :: c17 :: c18 :: c19 :: c20 :: c21 :: c22 :: c23 :: c24 :: c25 :: c26 :: c27 :: c28 :: c29 :: c30 :: c31 :: c32 :: [], _, [y0, y1, y2, y3, y4, y5, y6, y7, y8], _ =>
    have g0 : DataW.trod enc Tryz.prog w 0 (fun _ => true) true n 3 [c0] = some y0 := by
      have g := hf 0 _ rfl
      change DataW.trod enc Tryz.prog w 0 (fun _ => true) true n 3 (List.take (Tryz.prog.cellsOf 3) _) = _ at g
      rw [cellsOf3] at g
      exact g
    have g1 : DataW.trod enc Tryz.prog w 0 (fun _ => true) true n 35 [c1, c2, c3, c4, c5, c6, c7, c8, c9, c10, c11, c12, c13] = some y1 := by
      have g := hf 1 _ rfl
      change DataW.trod enc Tryz.prog w 0 (fun _ => true) true n 35 (List.take (Tryz.prog.cellsOf 35) _) = _ at g
      rw [cellsOf35] at g
      exact g
    have g2 : DataW.trod enc Tryz.prog w 0 (fun _ => true) true n 35 [c14, c15, c16, c17, c18, c19, c20, c21, c22, c23, c24, c25, c26] = some y2 := by
      have g := hf 2 _ rfl
      change DataW.trod enc Tryz.prog w 0 (fun _ => true) true n 35 (List.take (Tryz.prog.cellsOf 35) _) = _ at g
      rw [cellsOf35] at g
      exact g
    have g3 : DataW.trod enc Tryz.prog w 0 (fun _ => true) true n 37 [c27] = some y3 := by
      have g := hf 3 _ rfl
      change DataW.trod enc Tryz.prog w 0 (fun _ => true) true n 37 (List.take (Tryz.prog.cellsOf 37) _) = _ at g
      rw [cellsOf37] at g
      exact g
    have g4 : DataW.trod enc Tryz.prog w 0 (fun _ => true) true n 37 [c28] = some y4 := by
      have g := hf 4 _ rfl
      change DataW.trod enc Tryz.prog w 0 (fun _ => true) true n 37 (List.take (Tryz.prog.cellsOf 37) _) = _ at g
      rw [cellsOf37] at g
      exact g
    have g5 : DataW.trod enc Tryz.prog w 0 (fun _ => true) true n 3 [c29] = some y5 := by
      have g := hf 5 _ rfl
      change DataW.trod enc Tryz.prog w 0 (fun _ => true) true n 3 (List.take (Tryz.prog.cellsOf 3) _) = _ at g
      rw [cellsOf3] at g
      exact g
    have g6 : DataW.trod enc Tryz.prog w 0 (fun _ => true) true n 38 [c30] = some y6 := by
      have g := hf 6 _ rfl
      change DataW.trod enc Tryz.prog w 0 (fun _ => true) true n 38 (List.take (Tryz.prog.cellsOf 38) _) = _ at g
      rw [cellsOf38] at g
      exact g
    have g7 : DataW.trod enc Tryz.prog w 0 (fun _ => true) true n 38 [c31] = some y7 := by
      have g := hf 7 _ rfl
      change DataW.trod enc Tryz.prog w 0 (fun _ => true) true n 38 (List.take (Tryz.prog.cellsOf 38) _) = _ at g
      rw [cellsOf38] at g
      exact g
    have g8 : DataW.trod enc Tryz.prog w 0 (fun _ => true) true n 9 [c32] = some y8 := by
      have g := hf 8 _ rfl
      change DataW.trod enc Tryz.prog w 0 (fun _ => true) true n 9 (List.take (Tryz.prog.cellsOf 9) _) = _ at g
      rw [cellsOf9] at g
      exact g
    have hw : (∀ k ∈ y1.1.weights Tryz.prog 35, k ≤ reachBytes) ∧ (∀ k ∈ y2.1.weights Tryz.prog 35, k ≤ reachBytes) ∧ (∀ k ∈ y3.1.weights Tryz.prog 37, k ≤ reachBytes) ∧ (∀ k ∈ y4.1.weights Tryz.prog 37, k ≤ reachBytes) ∧
        (∀ k ∈ y6.1.weights Tryz.prog 38, k ≤ reachBytes) ∧ (∀ k ∈ y7.1.weights Tryz.prog 38, k ≤ reachBytes) ∧ (∀ k ∈ y8.1.weights Tryz.prog 9, k ≤ reachBytes) := by
      rw [hx] at hs
      simp only [List.map_cons, List.map_nil, DataW.weights, Tryz.underlying40, DataW.weightsEach, List.append_nil, List.mem_append] at hs
      refine ⟨fun k hk => hs k (by simp [hk]), fun k hk => hs k (by simp [hk]), fun k hk => hs k (by simp [hk]), fun k hk => hs k (by simp [hk]), fun k hk => hs k (by simp [hk]), fun k hk => hs k (by simp [hk]), fun k hk => hs k (by simp [hk])⟩
    clear hs hx hf
    obtain ⟨w1, w2, w3, w4, w6, w7, w8⟩ := hw
    obtain ⟨n0, e0, rfl, _⟩ := DataW.trod_int Tryz.underlying3 g0
    obtain ⟨s, e1, sf, rfl⟩ := open_stat_cells g1
    obtain ⟨t, e2, tf, rfl⟩ := open_stat_cells g2
    obtain ⟨B, hB, m3, hm3, hlm3⟩ := open_bytes_cells g3
    obtain ⟨C, hC, m4, hm4, hlm4⟩ := open_bytes_cells g4
    obtain ⟨n5, e5, rfl, v5⟩ := DataW.trod_int Tryz.underlying3 g5
    obtain ⟨L, hL, hLf⟩ := open_stats_cells g6 w6
    obtain ⟨M, hM, hMf⟩ := open_stats_cells g7 w7
    obtain ⟨s8, e8, hy8, _⟩ := DataW.trod_string Tryz.underlying9 g8
    have b5 := bounds_i64 v5
    have hs1 := stat_sized w1
    have hs2 := stat_sized w2
    have hb3 : B.length ≤ 140737488355328 := by
      have : m3 ≤ reachBytes := by
        rcases List.mem_append.1 hm3 with h | h
        · exact w3 m3 h
        · simp at h
          omega
      unfold reachBytes at this
      omega
    have hb4 : C.length ≤ 140737488355328 := by
      have : m4 ≤ reachBytes := by
        rcases List.mem_append.1 hm4 with h | h
        · exact w4 m4 h
        · simp at h
          omega
      unfold reachBytes at this
      omega
    have hb8 : s8.size ≤ 140737488355328 := by
      have := w8 s8.data.toList.length (by rw [hy8]; simp [DataW.weights])
      unfold reachBytes at this
      rw [size_list] at this
      omega
    refine ⟨⟨n0, s, t, c27, c28, B, C, n5, c30, c31, L, M, s8⟩, ?_, ⟨⟨hB, hC, hL, hM⟩, ⟨hs1, hs2, hb3, hb4, fun x hx => (hLf x hx).2, fun x hx => (hMf x hx).2, hb8⟩, sf, tf, by simpa using b5, fun x hx => (hLf x hx).1, fun x hx => (hMf x hx).1⟩⟩
    have e : ([c0, c1, c2, c3, c4, c5, c6, c7, c8, c9, c10, c11, c12, c13, c14, c15, c16, c17, c18, c19, c20, c21, c22, c23, c24, c25, c26, c27, c28, c29, c30, c31, c32] : List Value) = [c0] ++ ([c1, c2, c3, c4, c5, c6, c7, c8, c9, c10, c11, c12, c13] ++ ([c14, c15, c16, c17, c18, c19, c20, c21, c22, c23, c24, c25, c26] ++ [c27, c28, c29, c30, c31, c32])) := rfl
    rw [e, e0, e1, e2]
    simp only [List.cons.injEq, and_true] at e5 e8
    rw [e5, e8]
    rfl
set_option maxRecDepth 100000 in
/-- A script as an argument. -/
theorem open_script {r : Reach} {b0 : Nat} {v : Value} {d : DataW H} {ps : List MemPlace} (hv : Value.okWide Tryz.prog w r b0 22 v) (h : DataW.Trod enc Tryz.prog w 0 (fun _ => true) true 22 v d ps)
    {ts : List TypeId} {ds : List (DataW H)} (hsz : (DataW.weightsEach Tryz.prog ts ds).all (· ≤ reachBytes) = true) {j : Nat} (ht : ts[j]? = some 22) (hd : ds[j]? = some d) :
    ∃ P : List StP, Scr w v P ∧ ∀ p ∈ P, p.Arg w := by
  obtain ⟨a, len, cap, rfl⟩ := okWide_slice Tryz.underlying22 hv
  obtain ⟨fuel, hf⟩ := h
  have hw : ∀ n ∈ d.weights Tryz.prog 22, n ≤ reachBytes := fun n hn => by
    have := List.all_eq_true.1 hsz _ (DataW.weights_mem_each ht hd n hn)
    simpa using this
  rcases open_slice Tryz.underlying22 hf with ⟨hcs, hx⟩ | ⟨a', len', cap', m, n, D, Pl, hcs, hb, hl, hm, hmm, hx, hi⟩
  · simp only [Value.cells, List.cons.injEq, and_true, Value.slice.injEq] at hcs
    obtain ⟨rfl, rfl, rfl⟩ := hcs
    exact ⟨[], ⟨none, 0, rfl, Nat.le_refl _, by decide, fun i p hp => by simp at hp⟩, by simp⟩
  · simp only [Value.cells, List.cons.injEq, and_true, Value.slice.injEq] at hcs
    obtain ⟨rfl, rfl, rfl⟩ := hcs
    simp only [if_true] at hmm
    subst hmm
    simp only [Prod.mk.injEq] at hx
    obtain ⟨hx, -⟩ := hx
    rw [hx] at hw
    simp only [DataW.weights, Tryz.underlying22, List.mem_cons, List.mem_append] at hw
    have key : ∀ i, i < len → ∃ p : StP, w.cells? 0 (a'.add (i * 33)) 33 = some p.v.toList ∧ p.Arg w := by
      intro i hil
      obtain ⟨cs, h1, h2⟩ := hi i (by omega)
      rw [cellsOf40] at h1
      obtain ⟨p, rfl, hp⟩ := open_op_cells h2 (fun k hk => hw k (Or.inr (Or.inl (wAll_mem (List.mem_map.2 ⟨i, List.mem_range.2 hil, rfl⟩) k hk))))
      exact ⟨p, h1, hp⟩
    have ex : ∃ F : Nat → StP, ∀ i, i < len → w.cells? 0 (a'.add (i * 33)) 33 = some (F i).v.toList ∧ (F i).Arg w := by
      refine ⟨fun i => if h : i < len then (key i h).choose else ⟨0, StatP.zero, StatP.zero, .slice none 0 0, .slice none 0 0, [], [], 0, .slice none 0 0, .slice none 0 0, [], [], ⟨#[]⟩⟩, fun i hil => ?_⟩
      simp only [hil, dif_pos]
      exact (key i hil).choose_spec
    obtain ⟨F, hF⟩ := ex
    refine ⟨(List.range len).map F, ⟨some a', m, by simp, by simpa using hl, hm, fun i p hp => ?_⟩, fun p hp => ?_⟩
    · rw [List.getElem?_map] at hp
      obtain ⟨i', hi', rfl⟩ := Option.map_eq_some_iff.1 hp
      have hil : i < len := by have := (List.getElem?_eq_some_iff.1 hi').1; simpa using this
      have hii : i' = i := by
        have := (List.getElem?_eq_some_iff.1 hi').2
        simpa using this.symm
      subst hii
      obtain ⟨-, -, hc⟩ := World.cells?_some (hF i' hil).1
      obtain ⟨g, off, spot⟩ := a'
      have hspot : spot = none := by
        obtain ⟨-, -, hc0⟩ := World.cells?_some (hF 0 (by omega)).1
        have := hc0 0 (by omega)
        have hsp := World.cell?_spot (this.trans (show (F 0).v.toList[0]? = some _ from rfl))
        simpa [Addr.add] using hsp
      subst hspot
      refine ⟨⟨g, off, rfl, fun j u hu => ?_⟩, (hF i' hil).2.inn⟩
      have hj : j < 33 := by
        have := (List.getElem?_eq_some_iff.1 hu).1
        rwa [show (F i').v.toList.length = 33 from rfl] at this
      have := hc j hj
      rw [hu, Go.WideShapes.add_plain, Go.WideShapes.add_plain] at this
      exact this
    · obtain ⟨i, hi', rfl⟩ := List.mem_map.1 hp
      exact (hF i (List.mem_range.1 hi')).2
end
end Go.Proofs.YtnpokdbpmnkbjaaGreatDoor
