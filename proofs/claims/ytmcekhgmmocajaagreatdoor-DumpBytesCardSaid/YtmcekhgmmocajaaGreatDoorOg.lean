/- Of every argument: numbers within their bounds; what is readable reads behind as ahead. -/
import Derived.Test.YtmcekhgmmocajaaGreatDoorMem
import Derived.Test.YtmcekhgmmocajaaGreatDoorWrap
import Derived.SizedLaws
import Derived.Test.YtmcekhgmmocajaaGreatDoorEf
import Derived.Deep.Slices
namespace Go.Proofs.YtmcekhgmmocajaaGreatDoor
open Go.RowKit Go.ChangeShapes Go.WideShapes Me

theorem Tryz.laidOut : laidOutB Tryz.prog = true := by kernel_rfl
theorem cellsOf36 : Tryz.prog.cellsOf 45 = 1 := by kernel_rfl
theorem cellsOf9 : Tryz.prog.cellsOf 9 = 1 := by kernel_rfl
theorem cellsOf5 : Tryz.prog.cellsOf 5 = 1 := by kernel_rfl
section
variable {H : Type} {enc : TypeId × Value → H} {w : World} {base : Nat} {spare : Nat → Bool} {held : Bool}
theorem nat_u16 {n : Int} (h : (Lit.int .u16 n).wf = true) : ∃ m : Nat, n = (m : Int) ∧ m < 65536 := by
  obtain ⟨h1, h2⟩ := bounds_u16 h
  exact ⟨n.toNat, by omega, by omega⟩
theorem nat_u32 {n : Int} (h : (Lit.int .u32 n).wf = true) : ∃ m : Nat, n = (m : Int) ∧ m < 4294967296 := by
  obtain ⟨h1, h2⟩ := bounds_u32 h
  exact ⟨n.toNat, by omega, by omega⟩
theorem nat_u8 {n : Int} (h : (Lit.int .u8 n).wf = true) : ∃ m : Nat, n = (m : Int) ∧ m < 256 := by
  obtain ⟨h1, h2⟩ := bounds_u8 h
  exact ⟨n.toNat, by omega, by omega⟩
theorem nat_u64 {n : Int} (h : (Lit.int .u64 n).wf = true) : ∃ m : Nat, n = (m : Int) ∧ m < 18446744073709551616 := by
  obtain ⟨h1, h2⟩ := bounds_u64 h
  exact ⟨n.toNat, by omega, by omega⟩
set_option maxRecDepth 100000 in
theorem shut_stays {t : TypeId} (hr : Tryz.prog.readableRec t = true) (hrow : t < Tryz.prog.types.size) {W W' : World} {sp : Nat → Bool} {v : Value} {d : DataW H} {ps : List MemPlace}
    (h : DataW.Trod enc Tryz.prog W base (fun _ => true) true t v d ps) (hb : Below W.heap.size W W') (hlt : ∀ p ∈ ps, p.block < W.heap.size) (hs : ∀ p ∈ ps, sp p.block = true) : DataW.Trod enc Tryz.prog W' base sp true t v d ps :=
  WideElems.Trod_stays Tryz.laidOut hr hrow h (fun p hp => hb.same (hlt p hp)) hs
end
open Go.Deep
theorem cellsOf22 : Tryz.prog.cellsOf 22 = 1 := by kernel_rfl
theorem cellsOf38 : Tryz.prog.cellsOf 47 = 5 := by kernel_rfl
theorem bytesOf5 : Tryz.prog.bytesOf 5 = 1 := by kernel_rfl
theorem wAll_mem {H : Type} {P : Program} {e : TypeId} : ∀ {l : List (DataW H)} {d : DataW H}, d ∈ l → ∀ n ∈ d.weights P e, n ∈ DataW.weightsAll P e l
  | x :: l, d, hd, n, hn => by
    rw [DataW.weightsAll]
    rcases List.mem_cons.1 hd with rfl | hd
    · exact List.mem_append_left _ hn
    · exact List.mem_append_right _ (wAll_mem hd n hn)
section
variable {H : Type} {enc : TypeId × Value → H} {w : World} {base : Nat} {spare : Nat → Bool} {held : Bool}
def byteOf (z : Int) : UInt8 := UInt8.ofNat z.toNat
theorem byteV_byteOf {z : Int} (h : (Lit.int .u8 z).wf = true) : byteV (byteOf z) = .int .u8 z := by
  obtain ⟨h1, h2⟩ := bounds_u8 h
  unfold byteV byteOf
  congr 1
  simp only [UInt8.toNat_ofNat']
  omega
/-- A list of bytes, read out of the world. -/
theorem open_bytes_cells {fuel : Nat} {c : Value} {x : DataW H × List MemPlace} (h : DataW.trod enc Tryz.prog w base spare held fuel 22 [c] = some x) :
    ∃ l : List UInt8, Rd w c (l.map byteV) ∧ ∃ n ∈ x.1.weights Tryz.prog 22 ++ [0], l.length ≤ n := by
  rcases open_ints Tryz.underlying22 Tryz.underlying5 cellsOf5 h with ⟨hcs, hx⟩ | ⟨a', len', cap', zs, hcs, hb, hl, hm, hlen, hx, hcell, hwf⟩
  · simp only [List.cons.injEq, and_true] at hcs
    subst hcs
    exact ⟨[], ⟨none, 0, rfl, Nat.le_refl _, by decide, fun j u hu => by simp at hu⟩, 0, by simp, by simp⟩
  · simp only [List.cons.injEq, and_true] at hcs
    subst hcs
    have hlz : len' ≤ zs.length := by rw [hlen]; split <;> omega
    refine ⟨(zs.take len').map byteOf, ⟨some a', cap', by simp; omega, by simp; omega, hm, fun j u hu => ?_⟩, ((zs.take len').length + (zs.drop len').length) * 1, ?_, by simp⟩
    · rw [List.map_map, List.getElem?_map] at hu
      obtain ⟨z, hz, rfl⟩ := Option.map_eq_some_iff.1 hu
      obtain ⟨hj, hz'⟩ := List.getElem?_eq_some_iff.1 hz
      rw [List.length_take] at hj
      obtain ⟨b, off, rfl, hc⟩ := ints_at hcell (by omega)
      refine ⟨b, off, rfl, ?_⟩
      have hzz : zs.getD j 0 = z := by rw [← hz', List.getElem_take]; simp [show j < zs.length by omega]
      rw [hc j (by omega), hzz, Function.comp, byteV_byteOf (hwf z (List.mem_of_mem_take (List.mem_of_getElem? hz)))]
    · refine List.mem_append_left _ ?_
      rw [hx]
      simp only [DataW.weights, Tryz.underlying22, bytesOf5, List.mem_cons]
      refine Or.inl ?_
      simp [lits]
/-- Of an entry that was handed in: its sizes. -/
def Sized (e : EntP) : Prop := e.path.size ≤ 140737488355328 ∧ e.gid.size ≤ 140737488355328 ∧ e.data.length ≤ 140737488355328
set_option maxRecDepth 100000 in
theorem open_ent_cells {fuel : Nat} {cs : List Value} {x : DataW H × List MemPlace} (h : DataW.trod enc Tryz.prog w base spare held fuel 47 cs = some x) (hs : ∀ n ∈ x.1.weights Tryz.prog 47, n ≤ reachBytes) :
    ∃ p : EntP × Value, cs = entC p.1 p.2 ∧ p.1.Fits ∧ Sized p.1 ∧ Rd w p.2 (p.1.data.map byteV) := by
  obtain ⟨xs, n, _, hx, hlen, hxl, hf⟩ := DataW.trod_struct Tryz.underlying47 h
  rw [cellsOf38] at hlen
  match cs, hlen, xs, hxl with
  | [c0, c1, c2, c3, c4], _, [y0, y1, y2, y3, y4], _ =>
    have g0 : DataW.trod enc Tryz.prog w base spare held n 9 [c0] = some y0 := by
      have g := hf 0 _ rfl
      change DataW.trod enc Tryz.prog w base spare held n 9 (List.take (Tryz.prog.cellsOf 9) _) = _ at g
      rw [cellsOf9] at g
      exact g
    have g1 : DataW.trod enc Tryz.prog w base spare held n 45 [c1] = some y1 := by
      have g := hf 1 _ rfl
      change DataW.trod enc Tryz.prog w base spare held n 45 (List.take (Tryz.prog.cellsOf 45) _) = _ at g
      rw [cellsOf36] at g
      exact g
    have g2 : DataW.trod enc Tryz.prog w base spare held n 45 [c2] = some y2 := by
      have g := hf 2 _ rfl
      change DataW.trod enc Tryz.prog w base spare held n 45 (List.take (Tryz.prog.cellsOf 45) _) = _ at g
      rw [cellsOf36] at g
      exact g
    have g3 : DataW.trod enc Tryz.prog w base spare held n 9 [c3] = some y3 := by
      have g := hf 3 _ rfl
      change DataW.trod enc Tryz.prog w base spare held n 9 (List.take (Tryz.prog.cellsOf 9) _) = _ at g
      rw [cellsOf9] at g
      exact g
    have g4 : DataW.trod enc Tryz.prog w base spare held n 22 [c4] = some y4 := by
      have g := hf 4 _ rfl
      change DataW.trod enc Tryz.prog w base spare held n 22 (List.take (Tryz.prog.cellsOf 22) _) = _ at g
      rw [cellsOf22] at g
      exact g
    obtain ⟨s0, e0, hy0, _⟩ := DataW.trod_string Tryz.underlying9 g0
    obtain ⟨n1, e1, rfl, w1⟩ := DataW.trod_int Tryz.underlying45 g1
    obtain ⟨n2, e2, rfl, w2⟩ := DataW.trod_int Tryz.underlying45 g2
    obtain ⟨s3, e3, hy3, _⟩ := DataW.trod_string Tryz.underlying9 g3
    obtain ⟨l, hl, m, hm, hlm⟩ := open_bytes_cells g4
    obtain ⟨m1, rfl, b1⟩ := nat_u32 w1
    obtain ⟨m2, rfl, b2⟩ := nat_u32 w2
    simp only [List.cons.injEq, and_true] at e0 e1 e2 e3
    subst e0
    subst e1
    subst e2
    subst e3
    have hw : ∀ k ∈ y0.1.weights Tryz.prog 9 ++ (y3.1.weights Tryz.prog 9 ++ y4.1.weights Tryz.prog 22), k ≤ reachBytes := fun k hk => hs k (by
      rw [hx]
      simp only [List.map_cons, List.map_nil, DataW.weights, Tryz.underlying47, DataW.weightsEach, List.nil_append, List.append_nil]
      exact hk)
    have k0 := hw s0.data.toList.length (List.mem_append_left _ (by rw [hy0]; simp [DataW.weights]))
    have k3 := hw s3.data.toList.length (List.mem_append_right _ (List.mem_append_left _ (by rw [hy3]; simp [DataW.weights])))
    have k4 : m ≤ reachBytes := by
      rcases List.mem_append.1 hm with h | h
      · exact hw m (List.mem_append_right _ (List.mem_append_right _ h))
      · simp at h
        omega
    unfold reachBytes at k0 k3 k4
    simp only [Array.length_toList] at k0 k3
    refine ⟨(⟨s0, m1, m2, s3, l⟩, c4), rfl, ⟨b1, b2⟩, ⟨?_, ?_, ?_⟩, hl⟩
    · exact Nat.le_trans k0 (by decide)
    · exact Nat.le_trans k3 (by decide)
    · show l.length ≤ _
      omega
set_option maxRecDepth 100000 in
/-- A list of entries as an argument. -/
theorem open_ents {r : Reach} {b0 : Nat} {v : Value} {d : DataW H} {ps : List MemPlace} (hv : Value.okWide Tryz.prog w r b0 23 v) (h : DataW.Trod enc Tryz.prog w 0 (fun _ => true) true 23 v d ps)
    {ts : List TypeId} {ds : List (DataW H)} (hsz : (DataW.weightsEach Tryz.prog ts ds).all (· ≤ reachBytes) = true) {j : Nat} (ht : ts[j]? = some 23) (hd : ds[j]? = some d) :
    ∃ L : List EntP, Ents w v L ∧ (∀ e ∈ L, e.Fits) ∧ ∀ e ∈ L, Sized e := by
  obtain ⟨a, len, cap, rfl⟩ := okWide_slice Tryz.underlying23 hv
  obtain ⟨fuel, hf⟩ := h
  have hw : ∀ n ∈ d.weights Tryz.prog 23, n ≤ reachBytes := fun n hn => by
    have := List.all_eq_true.1 hsz _ (DataW.weights_mem_each ht hd n hn)
    simpa using this
  rcases open_slice Tryz.underlying23 hf with ⟨hcs, hx⟩ | ⟨a', len', cap', m, n, D, Pl, hcs, hb, hl, hm, hmm, hx, hi⟩
  · simp only [Value.cells, List.cons.injEq, and_true, Value.slice.injEq] at hcs
    obtain ⟨rfl, rfl, rfl⟩ := hcs
    exact ⟨[], ⟨none, 0, rfl, Nat.le_refl _, by decide, fun i p hp => by simp at hp⟩, by simp, by simp⟩
  · simp only [Value.cells, List.cons.injEq, and_true, Value.slice.injEq] at hcs
    obtain ⟨rfl, rfl, rfl⟩ := hcs
    simp only [if_true] at hmm
    subst hmm
    simp only [Prod.mk.injEq] at hx
    obtain ⟨hx, -⟩ := hx
    rw [hx] at hw
    simp only [DataW.weights, Tryz.underlying23, List.mem_cons, List.mem_append] at hw
    have key : ∀ i, i < len → ∃ p : EntP × Value, w.cells? 0 (a'.add (i * 5)) 5 = some (entC p.1 p.2) ∧ p.1.Fits ∧ Sized p.1 ∧ Rd w p.2 (p.1.data.map byteV) := by
      intro i hil
      obtain ⟨cs, h1, h2⟩ := hi i (by omega)
      rw [cellsOf38] at h1
      obtain ⟨p, rfl, k1, k2, k3⟩ := open_ent_cells h2 (fun n hn => hw n (Or.inr (Or.inl (wAll_mem (List.mem_map.2 ⟨i, List.mem_range.2 hil, rfl⟩) n hn))))
      exact ⟨p, h1, k1, k2, k3⟩
    have ex : ∃ F : Nat → EntP × Value, ∀ i, i < len → w.cells? 0 (a'.add (i * 5)) 5 = some (entC (F i).1 (F i).2) ∧ (F i).1.Fits ∧ Sized (F i).1 ∧ Rd w (F i).2 ((F i).1.data.map byteV) := by
      refine ⟨fun i => if h : i < len then (key i h).choose else (⟨⟨#[]⟩, 0, 0, ⟨#[]⟩, []⟩, .slice none 0 0), fun i hil => ?_⟩
      simp only [hil, dif_pos]
      exact (key i hil).choose_spec
    obtain ⟨F, hF⟩ := ex
    refine ⟨(List.range len).map fun i => (F i).1, ⟨some a', m, by simp, by simpa using hl, hm, fun i e he => ?_⟩, fun e he => ?_, fun e he => ?_⟩
    · rw [List.getElem?_map] at he
      obtain ⟨i', hi', rfl⟩ := Option.map_eq_some_iff.1 he
      have hil : i < len := by have := (List.getElem?_eq_some_iff.1 hi').1; simpa using this
      have hii : i' = i := by
        have := (List.getElem?_eq_some_iff.1 hi').2
        simpa using this.symm
      subst hii
      obtain ⟨-, -, hc⟩ := World.cells?_some (hF i' hil).1
      obtain ⟨g, off, spot⟩ := a'
      have hspot : spot = none := by
        obtain ⟨-, -, hc0⟩ := World.cells?_some (hF 0 (by omega)).1
        have := hc0 0 (by omega)
        have hsp := World.cell?_spot (this.trans (show (entC (F 0).1 (F 0).2)[0]? = some _ from rfl))
        simpa [Addr.add] using hsp
      subst hspot
      refine ⟨g, off, (F i').2, rfl, fun k u hu => ?_, (hF i' hil).2.2.2⟩
      have hk : k < 5 := (List.getElem?_eq_some_iff.1 hu).1
      have := hc k hk
      rw [Go.WideShapes.add_plain, Go.WideShapes.add_plain] at this
      rw [hu] at this
      exact this
    · obtain ⟨i, hi', rfl⟩ := List.mem_map.1 he
      exact (hF i (List.mem_range.1 hi')).2.1
    · obtain ⟨i, hi', rfl⟩ := List.mem_map.1 he
      exact (hF i (List.mem_range.1 hi')).2.2.1
end
end Go.Proofs.YtmcekhgmmocajaaGreatDoor
