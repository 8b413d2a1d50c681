/- A relay among other memory; the law's one and version. | What the chapter's first examples fix: the plain machine, step by step. | The law's works: its steps. -/
import Derived.Test.YtlgoeipgmjcboaaGreatDoorKj
import Derived.Test.YtlgoeipgmjcboaaGreatDoorRl
import Derived.WalkKit
namespace Go.Proofs.YtlgoeipgmjcboaaGreatDoor
open Go.RowKit Me
/-- A relay that lies at B and behind; the tables ahead of it stand. -/
structure Live (B : Nat) (w : World) (r : Nat) (R : RelP) (G : Gh) : Prop where
  rel : IsRel w r R R.used G nilS
  far : ∀ k ∈ G.F, B ≤ k
  base : 6 ≤ B ∧ B ≤ w.heap.size
  tabs : Lib.Utf8Tabs 4 5 w
  cell : ∃ m : Int, w.cell? ⟨0, 0, none⟩ = some (.int .i64 m)
section
variable {B : Nat} {w w' : World} {r : Nat} {R : RelP} {G : Gh} {vo : Value} {x : RelP × List OutP}
theorem Live.rest (h : Live B w r R G) : Rest w r R G :=
  ⟨h.rel, ⟨⟨fun hk => by have := h.far 0 hk; have := h.base.1; omega, by have := h.base; omega⟩, h.cell⟩, h.tabs⟩
theorem Live.mods {X : List Nat} {R' : RelP} {G' : Gh} (h : Live B w r R G) (hm : Mods X w w') (hX : ∀ k ∈ X, B ≤ k) (hr : IsRel w' r R' R'.used G' nilS) (hF : ∀ k ∈ G'.F, B ≤ k) : Live B w' r R' G' := by
  have hb : Below B w w' := ⟨hm.os, hm.tape, hm.output, hm.size, fun k hk => hm.block k (by have := h.base.2; omega) (fun hk' => by have := hX k hk'; omega)⟩
  refine ⟨hr, hF, ⟨h.base.1, Nat.le_trans h.base.2 hm.size⟩, tabs_below hb h.base.1 h.tabs, ?_⟩
  obtain ⟨m, e⟩ := h.cell
  exact ⟨m, by rw [World.cell?_of_block (w := w) (hb.block 0 (by have := h.base.1; omega))]; exact e⟩
theorem Live.still (h : Live B w r R G) (hm : Mods [] w w') : Live B w' r R G := h.mods hm (by simp) (h.rel.still hm) h.far
/-- A call is done. -/
theorem Live.done (h : Live B w r R G) (hd : Done w G.F r x vo w') : ∃ (L : List OutV) (G' : Gh), L.map OutV.plain = asInt x.2 ∧ Live B w' r x.1 G' ∧ OutsR w' w.heap.size vo L ∧ (∀ k ∈ G'.F, k ∉ outB vo L) ∧ Mods G.F w w' ∧ ∀ k ∈ G'.F, k ∈ G.F ∨ w.heap.size ≤ k := by
  obtain ⟨L, G', h1, h2, h3, h4, h5, h6⟩ := hd
  exact ⟨L, G', h1, h.mods h5 h.far h2 (fun k hk => (h6 k hk).elim (h.far k) (Nat.le_trans h.base.2)), h3, h4, h5, h6⟩
end
theorem info49' (n : Int) (m : MsgP) (vn vq vd : Value) : (Tryz.prog.info? 49).map (·.size) = some (outC n m vn vq vd).length := by kernel_rfl
theorem info49a (n : Int) (m : MsgP) (vn vq vd : Value) : (Tryz.prog.info? 49).map (·.size) = some (outC n m vn vq vd).toArray.size := by kernel_rfl
theorem out_range {w : World} {base : Nat} {vo : Value} {o : OutV} (h : OutsR w base vo [o]) : ∃ g c, vo = .slice (some ⟨g, 0, none⟩) 1 c ∧ w.rangeAt g 0 o.cells := by
  have hr := h.row
  rcases hr.2 with ⟨-, hz⟩ | ⟨g, cap, cur, rfl, hb, hg, hn, hc, hcur⟩
  · cases hz
  · refine ⟨g, cap, rfl, fun j v hj => ?_⟩
    have h1 : (List.flatMap OutV.cells [o])[j]? = some v := by simpa using hj
    rw [← hcur.2, List.getElem?_take] at h1
    split at h1
    · rw [cell_of_row _ _ _ _ _ _ hg, ← Array.getElem?_toList, Nat.zero_add]
      exact h1
    · cases h1
set_option maxRecDepth 100000 in
set_option maxHeartbeats 4000000 in
/-- one: the one message that came out. -/
theorem one_any {w : World} {base : Nat} {vo : Value} {o : OutV} (h : OutsR w base vo [o]) :
    Calls Tryz.prog 12 #[vo, .int .i64 0] w fun e w' => e = .returned (.agg o.cells.toArray) ∧ Mods [] w w' := by
  obtain ⟨g, c, rfl, hrg⟩ := out_range h
  have hone : o.cells.toArray.all (·.oneCell') = true := by
    rw [Array.all_eq_true_iff_forall_mem]
    intro u hu
    exact out_one o.c o.m o.vn o.vq o.vd (h.own o (by simp)).plain u (List.mem_toArray.1 hu)
  have hi := info49' o.c o.m o.vn o.vq o.vd
  have hia := info49a o.c o.m o.vn o.vq o.vd
  obtain ⟨i1, hi1, hz0, hz1, hz2⟩ := info_parts info49
  change (Tryz.prog.info? 49).map (·.size) = some o.cells.length at hi
  change (Tryz.prog.info? 49).map (·.size) = some o.cells.toArray.size at hia
  have hlen : o.cells.length = 37 := rfl
  have HW : Hid (OutsR w base (.slice (some ⟨g, 0, none⟩) 1 c) [o]) := Lib.hid h
  clear h
  generalize o.cells = oc at *
  have HRG := Lib.hid hrg
  have HI := Lib.hid hi
  have HIA := Lib.hid hia
  have HONE := Lib.hid hone
  clear hrg hi hia hone
  go_enter Tryz.func12, Tryz.ntmps12
  go_wp2_with (first | (refine wpList_load_mid rfl 49 _ rfl g 0 rfl oc _ (World.rangeAt_alloc HRG.out _) Tryz.underlying49 rfl HI.out ?_) | (refine wpList_store_row rfl 49 _ _ rfl w.heap.size oc.toArray rfl rfl 49 _ (heap_alloc_new w _) HIA.out (by simp [hlen]) HONE.out ?_))
  have hset := setRow_heap _ w.heap.size _ oc.toArray 49 _ (heap_alloc_new w (.cells (outC 0 MsgP.zero nilS nilS nilS).toArray 49))
  exact bodyPost_ret (v := .agg oc.toArray) (results_cell_row Tryz.results12 _ _ w.heap.size 49 _ _ _ rfl hset Tryz.underlying49 rfl HIA.out) rfl ⟨rfl, mods_row ((Mods.refl [] w).alloc _) _⟩
/-- A Tversion. -/
def tverM (ms : Nat) : MsgP := { MsgP.zero with kind := 100, tag := 65535, msize := ms, version := w9P }
theorem built47v (ms : Nat) : Tryz.prog.built 47 [(0, .int .u8 100), (1, .int .u16 65535), (2, .int .u32 (ms : Int)), (3, .string ⟨#[57, 80, 50, 48, 48, 48]⟩)] = some (msgC (tverM ms) nilS nilS nilS).toArray := by kernel_rfl
set_option maxRecDepth 100000 in
set_option maxHeartbeats 4000000 in
theorem version_any (ms : Nat) (w : World) : Calls Tryz.prog 25 #[.int .u32 (ms : Int)] w fun e w' => e = .returned (.agg (msgC (tverM ms) nilS nilS nilS).toArray) ∧ Mods [] w w' := by
  have HBL := Lib.hid (built47v ms)
  have HIN := Lib.hid (info47 (tverM ms) nilS nilS nilS)
  have HONE := Lib.hid (msg_one (tverM ms) nilS nilS nilS nil_plain)
  have hlen : (msgC (tverM ms) nilS nilS nilS).toArray.size = 36 := rfl
  generalize (msgC (tverM ms) nilS nilS nilS).toArray = mc at *
  go_enter Tryz.func25, Tryz.ntmps25
  go_wp2_with (first | (refine wpList_built rfl 47 _ rfl mc (by simp only [List.map_toArray, List.map_cons, List.map_nil]; exact HBL.out) ?_) | (refine wpList_store_row rfl 47 _ _ rfl w.heap.size mc rfl rfl 47 _ (heap_alloc_new w _) HIN.out (by simp [hlen]) HONE.out ?_))
  have hset := setRow_heap _ w.heap.size _ mc 47 _ (heap_alloc_new w (.cells (msgC MsgP.zero nilS nilS nilS).toArray 47))
  exact bodyPost_ret (v := .agg mc) (results_cell_row Tryz.results25 _ _ w.heap.size 47 _ _ _ rfl hset Tryz.underlying47 rfl HIN.out) rfl ⟨rfl, mods_row ((Mods.refl [] w).alloc _) _⟩
end Go.Proofs.YtlgoeipgmjcboaaGreatDoor
namespace Go.Proofs.YtlgoeipgmjcboaaGreatDoor
namespace Fix
def ver (kind ms : Nat) : MsgP := { MsgP.zero with kind := kind, tag := 65535, msize := ms, version := w9P }
def att : MsgP := { MsgP.zero with kind := 104, tag := 7, fid := 100, afid := 4294967295, uname := ⟨#[97, 110, 110]⟩ }
def rat (t : Nat) : MsgP := { MsgP.zero with kind := 105, tag := t }
def opn : MsgP := { MsgP.zero with kind := 112, tag := 1, fid := 100 }
def rop : MsgP := { MsgP.zero with kind := 113, tag := 0, iounit := 8168 }
def rea : MsgP := { MsgP.zero with kind := 116, tag := 1, fid := 5 }
def c1 : CliP := { CliP.none with msize := 1024 }
def c2 : CliP := { CliP.none with msize := 8192 }
def R0 : RelP := RelP.new 2 8192 4 3
def R1 : RelP := ⟨8192, 4, 3, 0, [c1, CliP.none], [], []⟩
def R2 : RelP := ⟨8192, 4, 3, 0, [c1, c2], [], []⟩
def q3 : ReqP := ⟨2, 0, 1, false, false, 104, 7, [1], 1, 0, 0, 0⟩
def q4 : ReqP := ⟨4, 1, 2, false, false, 104, 7, [3], 3, 0, 0, 0⟩
def R3 : RelP := ⟨8192, 4, 3, 2, [c1, c2], [⟨1, 1, 100, 0, false⟩], [q3]⟩
def R4 : RelP := ⟨8192, 4, 3, 4, [c1, c2], [⟨1, 1, 100, 0, false⟩, ⟨3, 2, 100, 1, false⟩], [q3, q4]⟩
def R5 : RelP := ⟨8192, 4, 3, 4, [c1, c2], [⟨1, 1, 100, 0, false⟩, ⟨3, 2, 100, 1, true⟩], [q3]⟩
def R6 : RelP := ⟨8192, 4, 3, 4, [c1, c2], [⟨1, 1, 100, 0, true⟩, ⟨3, 2, 100, 1, true⟩], []⟩
def R8 : RelP := ⟨8192, 4, 3, 5, [c1, c2], [⟨1, 1, 100, 0, true⟩, ⟨3, 2, 100, 1, true⟩], [⟨5, 0, 1, false, false, 112, 1, [1], 0, 1, 0, 0⟩]⟩
def R9 : RelP := ⟨8192, 4, 3, 5, [c1, c2], [⟨1, 1, 100, 0, true⟩, ⟨3, 2, 100, 1, true⟩], []⟩
def R10 : RelP := ⟨8192, 4, 3, 6, [c1, c2], [⟨1, 1, 100, 0, true⟩, ⟨3, 2, 100, 1, true⟩], [⟨6, 0, 1, false, false, 116, 1, [], 0, 0, 0, 0⟩]⟩
theorem s1 : R0.inn 1 (ver 100 1024) = ((R1, [(1, ver 101 1024)]), 0) := by kernel_rfl
theorem s2 : R1.inn 2 (ver 100 65536) = ((R2, [(2, ver 101 8192)]), 0) := by kernel_rfl
theorem s3 : R2.inn 1 att = ((R3, [(0, { att with fid := 0, tag := 0 })]), 0) := by kernel_rfl
theorem s4 : R3.inn 2 att = ((R4, [(0, { att with fid := 1, tag := 1 })]), 0) := by kernel_rfl
theorem s5 : R4.back (rat 1) = ((R5, [(2, rat 7)]), 0) := by kernel_rfl
theorem s6 : R5.back (rat 0) = ((R6, [(1, rat 7)]), 0) := by kernel_rfl
theorem s7 : R6.back (rat 0) = ((R6, []), 201) := by kernel_rfl
theorem s8 : R6.inn 1 opn = ((R8, [(0, { opn with fid := 0, tag := 0 })]), 0) := by kernel_rfl
theorem s9 : R8.back rop = ((R9, [(1, { rop with tag := 1, iounit := 1000 })]), 0) := by kernel_rfl
theorem s10 : R9.inn 1 rea = ((R10, [(0, { rea with fid := 4294967294, tag := 0 })]), 0) := by kernel_rfl
theorem s11 : R10.fidsOf 1 = 1 := by kernel_rfl
end Fix
end Go.Proofs.YtlgoeipgmjcboaaGreatDoor
namespace Go.Proofs.YtlgoeipgmjcboaaGreatDoor
open Go.RowKit Me
/-- A relay in the course of the examples: what came out lies in blocks of its own. -/
structure Kept (w0 w : World) (r : Nat) (R : RelP) (G : Gh) (ks : List (Nat × OutV)) : Prop where
  live : Live w0.heap.size w r R G
  mods : Mods [] w0 w
  kept : ∀ e ∈ ks, e.1 ∉ G.F ∧ w.heap[e.1]? = some (.cells e.2.cells.toArray 49 (0, 0))
section
variable {w0 w w' : World} {r : Nat} {R R' : RelP} {G G' : Gh} {ks : List (Nat × OutV)} {m m' : MsgP}
theorem Kept.still (h : Kept w0 w r R G ks) (hm : Mods [] w w') : Kept w0 w' r R G ks := ⟨h.live.still hm, h.mods.trans hm (by simp), fun e he => ⟨(h.kept e he).1, hm.heap (h.kept e he).2 (by simp)⟩⟩
theorem Kept.lt (h : Kept w0 w r R G ks) {e : Nat × OutV} (he : e ∈ ks) : e.1 < w.heap.size := (Array.getElem?_eq_some_iff.1 (h.kept e he).2).1
theorem Kept.done {x : RelP × List OutP} {vo : Value} (h : Kept w0 w r R G ks) (hd : Done w G.F r x vo w') : ∃ (L : List OutV) (G' : Gh), L.map OutV.plain = asInt x.2 ∧ Kept w0 w' r x.1 G' ks ∧ OutsR w' w.heap.size vo L := by
  obtain ⟨L, G', h1, h2, h3, -, h5, h6⟩ := h.live.done hd
  refine ⟨L, G', h1, ⟨h2, h.mods.trans h5 (fun k hk => Or.inr (h.live.far k hk)), fun e he => ⟨fun hk => ?_, h5.heap (h.kept e he).2 (h.kept e he).1⟩⟩, h3⟩
  rcases h6 _ hk with hk | hk
  · exact (h.kept e he).1 hk
  · have := h.lt he
    omega
theorem Kept.add {Z : Array Value} (h : Kept w0 w r R G ks) (o : OutV) : Kept w0 ((w.alloc (.cells Z 49)).setRow w.heap.size o.cells.toArray) r R G ((w.heap.size, o) :: ks) := by
  have hm : Mods [] w ((w.alloc (.cells Z 49)).setRow w.heap.size o.cells.toArray) := mods_row ((Mods.refl [] w).alloc _) _
  have h1 := h.still hm
  refine ⟨h1.live, h1.mods, fun e he => ?_⟩
  rcases List.mem_cons.1 he with rfl | he
  · exact ⟨fun hk => by have := h.live.rel.lt _ hk; omega, setRow_heap _ _ _ _ _ _ (heap_alloc_new w _)⟩
  · exact h1.kept e he
theorem one_of {L : List OutV} {c : Nat} (h : L.map OutV.plain = asInt [(c, m')]) : ∃ o, L = [o] ∧ o.c = (c : Int) ∧ o.m = m' := by
  cases L with
  | nil => simp [asInt] at h
  | cons o L =>
    cases L with
    | nil =>
      unfold asInt OutV.plain at h
      simp at h
      exact ⟨o, rfl, h.1, h.2⟩
    | cons p L => simp [asInt] at h
theorem in_step {c : Nat} (h : Kept w0 w r R G ks) (n : Int) (hsm : SmallM m) (hn : m.names = [] ∧ m.qids = [] ∧ m.data = []) (hs : R.inn n m = ((R', [(c, m')]), 0)) :
    Calls Tryz.prog 11 #[.pointer (some ⟨r, 0, none⟩), .int .i64 n, .agg (msgC m nilS nilS nilS).toArray] w fun e w' => ∃ A c' o G', e = .returned (.tuple #[.slice A 1 c', .int .i64 0]) ∧ Kept w0 w' r R' G' ks ∧ o.c = (c : Int) ∧ o.m = m' ∧ OutsR w' w.heap.size (.slice A 1 c') [o] := by
  refine (in_any h.live.rest n hsm (nil_msgR w m hn.1 hn.2.1 hn.2.2) nil_plain).mono ?_
  rintro e w' ⟨A, k, cc, rfl, hd⟩
  rw [hs] at hd ⊢
  obtain ⟨L, G', h1, h2, h3⟩ := h.done hd
  obtain ⟨o, rfl, o1, o2⟩ := one_of h1
  obtain ⟨A', c', e', -⟩ := ownsRow_slice h3.row
  cases e'
  exact ⟨A, cc, o, G', rfl, h2, o1, o2, h3⟩
theorem back_step {c : Nat} (h : Kept w0 w r R G ks) (hsm : SmallM m) (hn : m.names = [] ∧ m.qids = [] ∧ m.data = []) (hs : R.back m = ((R', [(c, m')]), 0)) :
    Calls Tryz.prog 16 #[.pointer (some ⟨r, 0, none⟩), .agg (msgC m nilS nilS nilS).toArray] w fun e w' => ∃ A c' o G', e = .returned (.tuple #[.slice A 1 c', .int .i64 0]) ∧ Kept w0 w' r R' G' ks ∧ o.c = (c : Int) ∧ o.m = m' ∧ OutsR w' w.heap.size (.slice A 1 c') [o] := by
  refine (back_any h.live.rest hsm (nil_msgR w m hn.1 hn.2.1 hn.2.2) nil_plain (by simp [listB, nilS, Value.ownBlock])).mono ?_
  rintro e w' ⟨A, k, cc, rfl, hd⟩
  rw [hs] at hd ⊢
  obtain ⟨L, G', h1, h2, h3⟩ := h.done hd
  obtain ⟨o, rfl, o1, o2⟩ := one_of h1
  obtain ⟨A', c', e', -⟩ := ownsRow_slice h3.row
  cases e'
  exact ⟨A, cc, o, G', rfl, h2, o1, o2, h3⟩
theorem back_step_wrong {er : Nat} (h : Kept w0 w r R G ks) (hsm : SmallM m) (hn : m.names = [] ∧ m.qids = [] ∧ m.data = []) (hs : R.back m = ((R', []), er)) :
    Calls Tryz.prog 16 #[.pointer (some ⟨r, 0, none⟩), .agg (msgC m nilS nilS nilS).toArray] w fun e w' => ∃ A k c' G', e = .returned (.tuple #[.slice A k c', .int .i64 (er : Int)]) ∧ Kept w0 w' r R' G' ks := by
  refine (back_any h.live.rest hsm (nil_msgR w m hn.1 hn.2.1 hn.2.2) nil_plain (by simp [listB, nilS, Value.ownBlock])).mono ?_
  rintro e w' ⟨A, k, cc, rfl, hd⟩
  rw [hs] at hd ⊢
  obtain ⟨L, G', h1, h2, h3⟩ := h.done hd
  exact ⟨A, k, cc, G', rfl, h2⟩
theorem Kept.start {B : Nat} (h : IsRel w r R R.used G nilS) (hF : ∀ k ∈ G.F, w0.heap.size ≤ k) (hm : Mods [] w0 w) (hT : Lib.Utf8Tabs 4 5 w0) (hc : ∃ m : Int, w0.cell? ⟨0, 0, none⟩ = some (.int .i64 m)) (_hB : B = 0) : Kept w0 w r R G [] := by
  refine ⟨⟨h, hF, ⟨tabs_two hT, hm.size⟩, tabs_mods hm hT, ?_⟩, hm, by simp⟩
  obtain ⟨m, e⟩ := hc
  exact ⟨m, by rw [World.cell?_of_block (w := w0) (hm.block 0 (by have := tabs_two hT; omega) (by simp))]; exact e⟩
end
theorem zero_fits : QidP.zero.Fits ∧ StatP.zero.Fits := by
  constructor
  · constructor <;> decide
  · constructor <;> first | decide | (constructor <;> decide)
namespace Fix
theorem small_v1 : SmallM (ver 100 1024) := ⟨⟨by decide, by decide, by decide, by decide, by decide, by decide, by decide, by simp [ver, MsgP.zero], zero_fits.1, by decide, by decide, by decide, by decide, by decide, zero_fits.2⟩, by decide, by decide⟩
theorem small_v2 : SmallM (ver 100 65536) := ⟨⟨by decide, by decide, by decide, by decide, by decide, by decide, by decide, by simp [ver, MsgP.zero], zero_fits.1, by decide, by decide, by decide, by decide, by decide, zero_fits.2⟩, by decide, by decide⟩
theorem small_att : SmallM att := ⟨⟨by decide, by decide, by decide, by decide, by decide, by decide, by decide, by simp [att, MsgP.zero], zero_fits.1, by decide, by decide, by decide, by decide, by decide, zero_fits.2⟩, by decide, by decide⟩
theorem small_r1 : SmallM (rat 1) := ⟨⟨by decide, by decide, by decide, by decide, by decide, by decide, by decide, by simp [rat, MsgP.zero], zero_fits.1, by decide, by decide, by decide, by decide, by decide, zero_fits.2⟩, by decide, by decide⟩
theorem small_r0 : SmallM (rat 0) := ⟨⟨by decide, by decide, by decide, by decide, by decide, by decide, by decide, by simp [rat, MsgP.zero], zero_fits.1, by decide, by decide, by decide, by decide, by decide, zero_fits.2⟩, by decide, by decide⟩
theorem small_opn : SmallM opn := ⟨⟨by decide, by decide, by decide, by decide, by decide, by decide, by decide, by simp [opn, MsgP.zero], zero_fits.1, by decide, by decide, by decide, by decide, by decide, zero_fits.2⟩, by decide, by decide⟩
theorem small_rop : SmallM rop := ⟨⟨by decide, by decide, by decide, by decide, by decide, by decide, by decide, by simp [rop, MsgP.zero], zero_fits.1, by decide, by decide, by decide, by decide, by decide, zero_fits.2⟩, by decide, by decide⟩
theorem small_rea : SmallM rea := ⟨⟨by decide, by decide, by decide, by decide, by decide, by decide, by decide, by simp [rea, MsgP.zero], zero_fits.1, by decide, by decide, by decide, by decide, by decide, zero_fits.2⟩, by decide, by decide⟩
theorem bAtt : Tryz.prog.built 47 [(0, .int .u8 104), (1, .int .u16 7), (9, .int .u32 100), (4, .int .u32 4294967295), (5, .string ⟨#[97, 110, 110]⟩)] = some (msgC att nilS nilS nilS).toArray := by kernel_rfl
theorem bRat1 : Tryz.prog.built 47 [(0, .int .u8 105), (1, .int .u16 1)] = some (msgC (rat 1) nilS nilS nilS).toArray := by kernel_rfl
theorem bRat0 : Tryz.prog.built 47 [(0, .int .u8 105), (1, .int .u16 0)] = some (msgC (rat 0) nilS nilS nilS).toArray := by kernel_rfl
theorem bOpn : Tryz.prog.built 47 [(0, .int .u8 112), (1, .int .u16 1), (9, .int .u32 100)] = some (msgC opn nilS nilS nilS).toArray := by kernel_rfl
theorem bRop : Tryz.prog.built 47 [(0, .int .u8 113), (1, .int .u16 0), (15, .int .u32 8168)] = some (msgC rop nilS nilS nilS).toArray := by kernel_rfl
theorem bRea : Tryz.prog.built 47 [(0, .int .u8 116), (1, .int .u16 1), (9, .int .u32 5)] = some (msgC rea nilS nilS nilS).toArray := by kernel_rfl
end Fix
end Go.Proofs.YtlgoeipgmjcboaaGreatDoor
