/- ends: a client that is ending goes on. -/
import Derived.Test.YtlgoeipgmjcboaaGreatDoorJx
namespace Go.Proofs.YtlgoeipgmjcboaaGreatDoor
open Go.RowKit Me
theorem built47k (fid : Nat) : Tryz.prog.built 47 [(0, .int .u8 120), (9, .int .u32 (fid : Int))] = some (msgC { MsgP.zero with kind := 120, fid := fid } nilS nilS nilS).toArray := by kernel_rfl
theorem built115o (m : MsgP) (vn vq vd : Value) (n g : Nat) : Tryz.prog.built 115 [(0, .agg (msgC m vn vq vd).toArray), (1, .int .i64 (n : Int)), (2, .bool true), (5, .slice (some ⟨g, 0, none⟩) 1 1)] = some (reqC m vn vq vd n true 0 false (.slice (some ⟨g, 0, none⟩) 1 1) (.pointer none) .nilFunc).toArray := by kernel_rfl
theorem nil_own (w : World) (m : MsgP) (h1 : m.names = []) (h2 : m.qids = []) (h3 : m.data = []) : OwnM w 0 m nilS nilS nilS := by
  refine ⟨?_, ?_, ?_⟩
  · rw [h1]
    exact ⟨rfl, Or.inl ⟨rfl, rfl⟩⟩
  · rw [h2]
    exact ⟨rfl, Or.inl ⟨rfl, rfl⟩⟩
  · rw [h3]
    exact ⟨rfl, Or.inl ⟨rfl, rfl⟩⟩
theorem slice112 (a : Nat) (w : World) : (Instr.buildSlice 112 1 #[(0, .pointer (some ⟨a, 0, none⟩))]).run Tryz.prog w = .ok (.slice (some ⟨w.heap.size, 0, none⟩) 1 1) (w.alloc (.cells #[.pointer (some ⟨a, 0, none⟩)] 146)) := by kernel_rfl
/-- One link, in a row. -/
theorem own_one (w : World) (G : Gh) (i : Nat) : (w.alloc (.cells #[.pointer (some ⟨G.lb i, 0, none⟩)] 146)).ownsRow 0 146 1 (.slice (some ⟨w.heap.size, 0, none⟩) 1 1) 1 (ptrs G [i]) :=
  ⟨rfl, Or.inr ⟨w.heap.size, 1, #[.pointer (some ⟨G.lb i, 0, none⟩)], rfl, Nat.zero_le _, heap_alloc_new w _, Nat.le_refl _, by decide, rfl, rfl⟩⟩
theorem no_req {R : RelP} {n : Nat} (h : ∀ q ∈ R.reqs, q.client ≠ n) : R.reqs.any (fun q => q.client == n) = false := by
  rw [List.any_eq_false]
  intro q hq
  simpa using h q hq
theorem index_dot : ∀ l : List UInt8, (Lib.index l [46] = -1 ∧ l.takeWhile (· != 46) = l) ∨ ∃ i : Nat, Lib.index l [46] = i ∧ l.takeWhile (· != 46) = l.take i
  | [] => Or.inl ⟨rfl, rfl⟩
  | b :: l => by
    unfold Lib.index
    by_cases e : b = 46
    · subst e
      exact Or.inr ⟨0, by simp, by simp⟩
    · have h0 : ([46] : List UInt8).isPrefixOf (b :: l) = false := by simp [List.isPrefixOf, Ne.symm e]
      have e' : (b != 46) = true := by simpa using e
      rw [h0, List.takeWhile_cons, if_pos e']
      rcases index_dot l with ⟨h1, h2⟩ | ⟨i, h1, h2⟩
      · rw [h1, h2]
        exact Or.inl ⟨by simp, rfl⟩
      · rw [h1, h2]
        refine Or.inr ⟨i + 1, ?_, rfl⟩
        have : ¬ ((i : Int) = -1) := by omega
        simp [this]
theorem cut_dot (l : List UInt8) : (Lib.cut l [46]).1 = l.takeWhile (· != 46) := by
  unfold Lib.cut
  rcases index_dot l with ⟨h1, h2⟩ | ⟨i, h1, h2⟩
  · rw [h1, h2]
    simp
  · rw [h1, h2]
    simp
theorem upTo_cut {s : ByteArray} {c1 c2 : List UInt8} {c3 : Bool} (h : Lib.cut s.data.toList [46] = (c1, c2, c3)) : upTo s = ⟨c1.toArray⟩ := by
  have := cut_dot s.data.toList
  rw [h] at this
  unfold upTo
  rw [← this]
theorem upTo_is {s : ByteArray} {c1 c2 : List UInt8} {c3 : Bool} (h : Lib.cut s.data.toList [46] = (c1, c2, c3)) : upTo s = w9P ↔ c1 = [57, 80, 50, 48, 48, 48] := by
  rw [upTo_cut h]
  unfold w9P
  constructor
  · intro e
    have := congrArg (fun b : ByteArray => b.data.toList) e
    simpa using this
  · rintro rfl
    rfl
/-- What is so of the memory all along: the strings' cell. -/
structure Env (w0 : World) (F0 : List Nat) : Prop where
  out : 0 ∉ F0 ∧ 0 < w0.heap.size
  cell : ∃ m : Int, w0.cell? ⟨0, 0, none⟩ = some (.int .i64 m)
section
variable {w0 w w' : World} {F0 K : List Nat} {r n : Nat} {R R' : RelP} {U : Nat → Nat} {G G' : Gh} {L : List OutV} {vo : Value}
theorem St.env (h : St w0 F0 K r R U G L w) (he : Env w0 F0) : ∃ m : Int, w.cell? ⟨0, 0, none⟩ = some (.int .i64 m) := by
  obtain ⟨m, e⟩ := he.cell
  refine ⟨m, ?_⟩
  rw [World.cell?_of_block (w := w0) (h.mods.block 0 he.out.2 he.out.1)]
  exact e
theorem takes_own {l : LinkP} (hn : 1 ≤ n ∧ n ≤ R.clients.length) (hl : l ∈ R.links) : R.Takes (passQ n true 120 0 [l.id] 0 l.id 0) :=
  ⟨hn, (by show answerK 120 ≠ none; decide), Nat.zero_lt_succ _, fun i hi => ⟨l, hl, (List.mem_singleton.1 hi).symm⟩, fun h => absurd rfl h, fun h => (by cases h), (by show 1 ≤ 2; omega), Nat.zero_le _, fun h => (by cases h)⟩
theorem three {b : Nat} {x y z x' y' z' : Value} (h : w.heap[b]? = some (.cells #[x, y, z] 85 (0, 0))) :
    (((w.setCell ⟨b, 0, none⟩ x').setCell ⟨b, 1, none⟩ y').setCell ⟨b, 2, none⟩ z').heap[b]? = some (.cells #[x', y', z'] 85 (0, 0)) ∧ Mods [b] w (((w.setCell ⟨b, 0, none⟩ x').setCell ⟨b, 1, none⟩ y').setCell ⟨b, 2, none⟩ z') :=
  ⟨heap_setCell_same _ _ _ _ _ _ (heap_setCell_same _ _ _ _ _ _ (heap_setCell_same _ _ _ _ _ _ h)), (((Mods.refl [b] w).setCell (p := ⟨b, 0, none⟩) (Or.inl (by simp)) _).setCell (p := ⟨b, 1, none⟩) (Or.inl (by simp)) _).setCell (p := ⟨b, 2, none⟩) (Or.inl (by simp)) _⟩
theorem none_ok : CliP.none.Ok R := ⟨Or.inl rfl, Nat.zero_le _, (by show 0 < 4294967296; omega), fun h => (by cases h), (by show 0 ≤ 100000000; omega)⟩
/-- A client has no session any more. -/
theorem St.drop {x y z : Value} (h : St w0 F0 K r R U G L w) (hn : 1 ≤ n ∧ n ≤ R.clients.length) (hq : R.reqs.any (fun q => q.client == n) = false) (hr : w.heap[G.cb (n - 1)]? = some (.cells #[x, y, z] 85 (0, 0))) :
    St w0 F0 K r (R.setCli n CliP.none) U G L (((w.setCell ⟨G.cb (n - 1), 0, none⟩ (.int .u32 0)).setCell ⟨G.cb (n - 1), 1, none⟩ (.bool false)).setCell ⟨G.cb (n - 1), 2, none⟩ (.pointer none)) := by
  obtain ⟨h1, h2⟩ := three (x' := .int .u32 0) (y' := .bool false) (z' := .pointer none) hr
  refine h.setCli hn none_ok (fun q hq' e => ?_) h2 h1 rfl
  rw [List.any_eq_false] at hq
  exact absurd (hq q hq') (by simp [e])
theorem St.lt (h : St w0 F0 K r R U G L w) : ∀ k ∈ G.F, k < w.heap.size := by
  obtain ⟨vo, h1, -⟩ := h.ex
  exact h1.lt
theorem St.ltr (h : St w0 F0 K r R U G L w) : r < w.heap.size := by
  obtain ⟨vo, h1, -⟩ := h.ex
  exact h1.lt _ h1.here.1
def verM (ms : Nat) (v : ByteArray) : MsgP := { MsgP.zero with kind := 101, tag := 65535, msize := ms, version := v }
theorem step_plain {P : Program} {ops : Array Oper} {o : Oper} {a : Act} {w : World} {KK : Act → World → Prop} {Q : Exit → Act → World → Prop} {E : Prop} (hgd : o.guard = none) (h : Oper.wp P o a w KK Q) : if Region.wanted o (yielded ops a.tmps) = true then Oper.wp P o a w KK Q else E := by
  rw [if_pos (by simp [Region.wanted, hgd])]
  exact h
theorem mods_row {w5 w6 : World} (h : Mods [] w5 w6) (cs : Array Value) : Mods [] w5 (w6.setRow w5.heap.size cs) :=
  ⟨h.os, h.tape, h.output, by simpa using h.size, fun k hk hk' => by rw [setRow_other _ _ _ _ (by omega)]; exact h.block k hk hk'⟩
def clunkM (fid : Nat) : MsgP := { MsgP.zero with kind := 120, fid := fid }
theorem own_sends {l : LinkP} {t : Nat} (h : St w0 F0 K r R R.used G L w) (hn : 1 ≤ n ∧ n ≤ R.clients.length) (hl : l ∈ R.links) (ht : R.tag = some t) (hL : L.length ≤ 1000) :
    Calls Tryz.prog 86 #[.pointer (some ⟨w.heap.size + 1, 0, none⟩), .pointer none] ((w.alloc (.cells #[.pointer (some ⟨G.lb l.id, 0, none⟩)] 146)).alloc (.cells (reqC (clunkM l.num) nilS nilS nilS n true 0 false (.slice (some ⟨w.heap.size, 0, none⟩) 1 1) (.pointer none) .nilFunc).toArray 115)) fun e w1 =>
      ∃ c1 c2 c3 c4 : Addr, e = .returned (.func (.func 121) #[] #[.pointer (some c1), .pointer (some c2), .pointer (some c3), .pointer (some c4)]) ∧ w1.frozen? ⟨w.heap.size + 1, 42, none⟩ = false ∧ w1.cell? ⟨w.heap.size + 1, 42, none⟩ = some .nilFunc ∧
      Calls Tryz.prog 83 #[.pointer (some ⟨r, 0, none⟩), .pointer (some ⟨w.heap.size + 1, 0, none⟩)] (w1.setCell ⟨w.heap.size + 1, 42, none⟩ (.func (.func 121) #[] #[.pointer (some c1), .pointer (some c2), .pointer (some c3), .pointer (some c4)])) fun e w' => e = .returned (.tuple #[]) ∧
        ∃ (o : OutV) (G' : Gh), (G'.gc = G.gc ∧ G'.cb = G.cb) ∧ o.c = 0 ∧ o.m = { clunkM l.num with tag := t } ∧ St w0 F0 K r (R.put (passQ n true 120 0 [l.id] 0 l.id 0) t) (R.put (passQ n true 120 0 [l.id] 0 l.id 0) t).used G' (L ++ [o]) w' := by
  have hm1 := (Mods.refl [] w).alloc (.cells #[.pointer (some ⟨G.lb l.id, 0, none⟩)] 146)
  have hz : (w.alloc (.cells #[.pointer (some ⟨G.lb l.id, 0, none⟩)] 146)).heap.size = w.heap.size + 1 := by simp
  have hA := (h.alloc (.cells #[.pointer (some ⟨G.lb l.id, 0, none⟩)] 146)).alloc (.cells (reqC (clunkM l.num) nilS nilS nilS n true 0 false (.slice (some ⟨w.heap.size, 0, none⟩) 1 1) (.pointer none) .nilFunc).toArray 115)
  have hc2 := heap_alloc_new (w.alloc (.cells #[.pointer (some ⟨G.lb l.id, 0, none⟩)] 146)) (.cells (reqC (clunkM l.num) nilS nilS nilS n true 0 false (.slice (some ⟨w.heap.size, 0, none⟩) 1 1) (.pointer none) .nilFunc).toArray 115)
  have hm2 := (Mods.refl [] (w.alloc (.cells #[.pointer (some ⟨G.lb l.id, 0, none⟩)] 146))).alloc (.cells (reqC (clunkM l.num) nilS nilS nilS n true 0 false (.slice (some ⟨w.heap.size, 0, none⟩) 1 1) (.pointer none) .nilFunc).toArray 115)
  rw [hz] at hc2 hA
  have hsz := h.mods.size
  obtain ⟨_, _, _, _, h4⟩ := h.ex
  refine sends_own (K := K) (uses := [l.id]) (fresh := 0) (fid := l.id) (hA.keep (fun k hk => ?_)) hc2 (ownsRow_mods (own_one w G l.id) hm2 (by simp)) ⟨by omega, fun k hk => ?_⟩ (fun k hk => ⟨?_, ?_⟩) (nil_own _ _ rfl rfl rfl) ⟨by simp [clunkM, MsgP.zero], by simp [clunkM, MsgP.zero], by simp [clunkM, MsgP.zero]⟩ (by simp [clunkM]) ht rfl (takes_own hn hl) hL
  · simp [Value.ownBlock, listB, nilS] at hk ⊢
    exact hk
  · simp [Value.ownBlock] at hk
    omega
  · have := (h4 k hk).1
    omega
  · have := (h4 k hk).1
    simp [Value.ownBlock]
    omega
theorem real_mem {l : LinkP} (h : R.real n = some l) : l ∈ R.links := by
  rw [real_eq] at h
  rcases ((lesser_fold (R.links.filter (mine n)) none).2 l h).1 with h | h
  · exact (List.mem_filter.1 h).1
  · cases h
theorem setCli_twice (a b : CliP) : (R.setCli n a).setCli n b = R.setCli n b := by
  unfold RelP.setCli
  simp
theorem live_ok {c : CliP} (h : (c.msize = 0 ∨ 512 ≤ c.msize) ∧ c.msize ≤ R.msize ∧ c.vsize < 4294967296 ∧ (c.waits = true → 512 ≤ c.vsize) ∧ c.ver.size ≤ 100000000) (hw : c.waits = true) (hm : 512 ≤ R.msize ∧ R.msize ≤ 65536) : CliP.Ok (R.setCli n CliP.none) { CliP.none with msize := min c.vsize R.msize } := by
  have := h.2.2.2.1 hw
  refine ⟨Or.inr ?_, Nat.min_le_right _ _, (by show 0 < 4294967296; omega), fun h => (by cases h), (by show 0 ≤ 100000000; omega)⟩
  show 512 ≤ min c.vsize R.msize
  omega
set_option maxRecDepth 100000 in
set_option maxHeartbeats 8000000 in
theorem ends_any (h : St w0 F0 K r R R.used G L w) (he : Env w0 F0) (hn : 1 ≤ n ∧ n ≤ R.clients.length) (hc : (R.cli n).ending = true) (hL : L.length ≤ 1000) :
    Calls Tryz.prog 71 #[.pointer (some ⟨r, 0, none⟩), .int .i64 (n : Int), .pointer (some ⟨G.cb (n - 1), 0, none⟩)] w fun e w' => e = .returned (.tuple #[]) ∧ ∃ (L' : List OutV) (G' : Gh), (G'.gc = G.gc ∧ G'.cb = G.cb) ∧ L'.map OutV.plain = asInt (R.goes n).2 ∧
      St w0 F0 K r (R.goes n).1 (R.goes n).1.used G' (L ++ L') w' := by
  obtain ⟨vo, h1, -⟩ := h.ex
  have c5 : w.cell? ⟨r, 5, none⟩ = some (.map (some G.ub)) := h1.cell 5
  have HU : Hid (PMap KU w G.ub (reqM R G)) := Lib.hid h1.under
  have hub : G.ub < w.heap.size := h1.lt _ h1.here.2.2.2
  have HREL := Lib.hid h1
  have H := Lib.hid h
  have HE := Lib.hid he
  have HC := Lib.hid hc
  have HL := Lib.hid hL
  have HN := Lib.hid hn
  clear h he hc hL h1
  go_enter Tryz.func71, Tryz.ntmps71
  go_wp2_with (at_range; refine wpList_range_pm _ rfl _ 78 rfl 109 Tryz.underlying78 G.ub (reqM R G) rfl HU.out ?_; intro wI hR hmI hsI; have HR := Lib.hid hR; have HMI := Lib.hid hmI; clear hR hmI hsI; go_frame)
  generalize hit : w.heap.size = it at *
  go_loopw [7] (fun _ wr => ∃ T, PRange KU wr G.ub it (reqM R G) T ∧ Mods [] w wr ∧ ∀ q ∈ R.reqs, (q.num, G.rb q.id) ∉ T → q.client ≠ n) (fun _ wr => wr.rangeLeft G.ub it)
  case atStart => exact ⟨_, HR.out, HMI.out, fun q hq hn => absurd (List.mem_map.2 ⟨q, hq, rfl⟩) hn⟩
  case round =>
    obtain ⟨T, hT, hm, hno⟩ := hrel
    have HTT := Lib.hid hT
    have HM := Lib.hid hm
    have HNO := Lib.hid hno
    clear hT hm hno
    go_wp2_with (at_next; refine wpList_next_pm _ rfl _ rfl G.ub it (reqM R G) _ rfl HTT.out ?_ ?_)
    · intro hT0
      have HNR : Hid (R.reqs.any (fun q => q.client == n) = false) := Lib.hid (no_req (fun q hq => HNO.out q hq (by rw [hT0]; simp)))
      have HS := Lib.hid (H.out.still HM.out)
      have hrelw := HREL.out.still HM.out
      have hre := real_any hrelw n
      clear hT0
      cases eR : R.real n with
      | some l =>
        rw [eR] at hre
        simp only [Option.map_some, Option.isSome_some] at hre
        have HRE := Lib.hid hre
        have HER := Lib.hid eR
        clear hre hrelw eR
        go_wp2_with fail
        refine HRE.out.mono ?_
        rintro e w3 ⟨rfl, hm3⟩
        have HM3 := Lib.hid (HM.out.trans hm3 (by simp))
        have htg := tag_any (HREL.out.still HM3.out)
        cases eT : R.tag with
        | none =>
          rw [eT] at htg
          simp only [Option.isSome_none, Option.getD_none] at htg
          have HTG := Lib.hid htg
          have HY : Hid (R.goes n = (R, [])) := Lib.hid (by
            unfold RelP.goes
            rw [if_neg (by rw [HNR.out]; simp), HER.out]
            simp [eT])
          clear htg eT hm3
          go_wp2_with fail
          refine HTG.out.mono ?_
          rintro e w4 ⟨rfl, rfl⟩
          go_wp2_with fail
          refine bodyPost_ret (results_none rfl _ _ _) rfl ?_
          refine ⟨rfl, [], G, ⟨rfl, rfl⟩, by rw [HY.out]; rfl, ?_⟩
          rw [HY.out, List.append_nil]
          exact H.out.still HM3.out
        | some t =>
          rw [eT] at htg
          simp only [Option.isSome_some, Option.getD_some] at htg
          have HTG := Lib.hid htg
          have HT := Lib.hid eT
          have HY : Hid (R.goes n = (R.put (passQ n true 120 0 [l.id] 0 l.id 0) t, [(0, { ({ MsgP.zero with kind := 120, fid := l.num } : MsgP) with tag := t })])) := Lib.hid (by
            unfold RelP.goes
            rw [if_neg (by rw [HNR.out]; simp), HER.out]
            simp only [eT, Option.isSome_some, if_true]
            exact sends_put eT)
          have hl := real_mem HER.out
          have k0 := link_cell (HREL.out.still HM3.out) hl 0
          simp only [List.getElem?_toArray, List.getElem?_cons_zero] at k0
          have HLM := Lib.hid hl
          have HSN := Lib.hid (own_sends (H.out.still HM3.out) HN.out hl eT HL.out)
          clear htg eT hm3 hl
          go_wp2_with fail
          refine HTG.out.mono ?_
          rintro e w4 ⟨rfl, rfl⟩
          go_wp2_with fail
          refine HSN.out.mono ?_
          rintro e w5 ⟨c1, c2, c3, c4, rfl, g1, g2, g3⟩
          have HG3 := Lib.hid g3
          clear g3
          go_wp2_with fail
          refine HG3.out.mono ?_
          rintro e w6 ⟨rfl, o, G2, o0, o1, o2, o3⟩
          have I0 := Lib.hid o0
          have I1 := Lib.hid o1
          have I2 := Lib.hid o2
          have I3 := Lib.hid o3
          clear o0 o1 o2 o3
          go_wp2_with fail
          refine bodyPost_ret (results_none rfl _ _ _) rfl ?_
          refine ⟨rfl, [o], G2, I0.out, ?_, ?_⟩
          · rw [HY.out]
            unfold asInt OutV.plain
            simp [I1.out, I2.out, clunkM]
          · rw [HY.out]
            exact I3.out
      | none =>
        rw [eR] at hre
        simp only [Option.map_none, Option.isSome_none] at hre
        have HRE := Lib.hid hre
        have HER := Lib.hid eR
        clear hre hrelw eR
        go_wp2_with fail
        refine HRE.out.mono ?_
        rintro e w3 ⟨rfl, hm3⟩
        have HM3 := Lib.hid (HM.out.trans hm3 (by simp))
        have HS3 := Lib.hid (H.out.still HM3.out)
        obtain ⟨vo3, hr3, -⟩ := HS3.out.ex
        obtain ⟨hbF, p, hrow, hp0, hp1⟩ := hr3.cli (n - 1) (R.cli n) (cli_at HN.out)
        have q0 : w3.cell? ⟨G.cb (n - 1), 0, none⟩ = some (.int .u32 ((R.cli n).msize : Int)) := by rw [cell_of_row _ _ _ _ _ _ hrow]; rfl
        have q1 : w3.cell? ⟨G.cb (n - 1), 1, none⟩ = some (.bool (R.cli n).ending) := by rw [cell_of_row _ _ _ _ _ _ hrow]; rfl
        have q2 : w3.cell? ⟨G.cb (n - 1), 2, none⟩ = some (.pointer p) := by rw [cell_of_row _ _ _ _ _ _ hrow]; rfl
        have qf0 : w3.frozen? ⟨G.cb (n - 1), 0, none⟩ = false := frozen_of_row _ _ _ _ _ hrow
        have qf1 : w3.frozen? ⟨G.cb (n - 1), 1, none⟩ = false := frozen_of_row _ _ _ _ _ hrow
        have qf2 : w3.frozen? ⟨G.cb (n - 1), 2, none⟩ = false := frozen_of_row _ _ _ _ _ hrow
        cases eW : (R.cli n).waits with
        | false =>
          obtain rfl := hp0 HC.out eW
          have HROW := Lib.hid hrow
          have HY : Hid (R.goes n = (R.setCli n CliP.none, [])) := Lib.hid (by
            unfold RelP.goes
            rw [if_neg (by rw [HNR.out]; simp), HER.out]
            simp only [eW, if_true])
          clear hr3 hrow hp0 hp1 hm3 eW
          go_wp2_with fail
          refine bodyPost_ret (results_none rfl _ _ _) rfl ?_
          refine ⟨rfl, [], G, ⟨rfl, rfl⟩, by rw [HY.out]; rfl, ?_⟩
          rw [HY.out, List.append_nil]
          exact HS3.out.drop HN.out HNR.out HROW.out
        | true =>
          obtain ⟨g, m, vn, vq, vd, rfl, hgF, hg, hgt, hgv, hgm⟩ := hp1 HC.out eW
          have hs4 := HS3.out.drop HN.out HNR.out hrow
          have hg4 := setOff (i := 2) (heap_setCell_same _ _ _ _ _ _ (heap_setCell_same _ _ _ _ _ _ hrow)) (setOff (i := 1) (heap_setCell_same _ _ _ _ _ _ hrow) (setOff (i := 0) hrow hg (by decide) (.int .u32 0)) (by decide) (.bool false)) (by decide) (.pointer none)
          have hrw4 := (three (x' := .int .u32 0) (y' := .bool false) (z' := .pointer none) hrow).1
          have hok := hr3.wf.cli _ (List.mem_of_getElem? (cli_at HN.out))
          have hmr := hr3.wf.msize
          generalize hw4 : ((w3.setCell ⟨G.cb (n - 1), 0, none⟩ (.int .u32 0)).setCell ⟨G.cb (n - 1), 1, none⟩ (.bool false)).setCell ⟨G.cb (n - 1), 2, none⟩ (.pointer none) = w4 at *
          have g3 : w4.cell? ⟨g, 3, none⟩ = some (.string (R.cli n).ver) := by rw [cell_of_row _ _ _ _ _ _ hg4, ← hgv]; rfl
          have g1 : w4.cell? ⟨g, 1, none⟩ = some (.int .u16 65535) := by
            have e : w4.cell? ⟨g, 1, none⟩ = some (.int .u16 (m.tag : Int)) := by rw [cell_of_row _ _ _ _ _ _ hg4]; rfl
            rw [e, hgt]
            rfl
          have g2 : w4.cell? ⟨g, 2, none⟩ = some (.int .u32 ((R.cli n).vsize : Int)) := by rw [cell_of_row _ _ _ _ _ _ hg4, ← hgm]; rfl
          obtain ⟨vo4, hr4, -⟩ := hs4.ex
          have r0 : w4.cell? ⟨r, 0, none⟩ = some (.int .u32 (R.msize : Int)) := hr4.cell 0
          obtain ⟨mm, hmm⟩ := hs4.env HE.out
          have HCUT := Lib.hid (Tryz.strings_Cut (R.cli n).ver ⟨#[46]⟩ mm w4 (by have := hok.2.2.2.2; omega) hmm)
          have HOK := Lib.hid hok
          have HMR := Lib.hid hmr
          have HS4 := Lib.hid hs4
          have HRW4 := Lib.hid hrw4
          have HEW := Lib.hid eW
          clear hr3 hrow hp0 hp1 hm3 eW hs4 hg4 hrw4 hok hmr hr4 hmm hg hgt hgv hgm
          generalize hcut : Lib.cut (R.cli n).ver.data.toList (ByteArray.mk #[46]).data.toList = cu at *
          obtain ⟨cu1, cu2, cu3⟩ := cu
          simp only at HCUT
          go_wp2_with fail
          refine HCUT.out.mono ?_
          rintro e w5 ⟨rfl, kk, rfl⟩
          have hm5 := (Mods.refl [] w4).drewN kk
          have g1' : (w4.drewN kk).cell? ⟨g, 1, none⟩ = some (.int .u16 65535) := g1
          have g2' : (w4.drewN kk).cell? ⟨g, 2, none⟩ = some (.int .u32 ((R.cli n).vsize : Int)) := g2
          have r0' : (w4.drewN kk).cell? ⟨r, 0, none⟩ = some (.int .u32 (R.msize : Int)) := r0
          generalize hw5 : w4.drewN kk = w5 at *
          have HS5 := Lib.hid (HS4.out.still hm5)
          have HRW5 := Lib.hid (hm5.heap HRW4.out (by simp))
          have HCU := Lib.hid hcut
          have hlt5 := HS5.out.lt
          have hltr5 := HS5.out.ltr
          have HALL : Hid (∀ o : Obj, (w5.drew.alloc o).cell? ⟨g, 1, none⟩ = some (.int .u16 65535) ∧ (w5.drew.alloc o).cell? ⟨g, 2, none⟩ = some (.int .u32 ((R.cli n).vsize : Int)) ∧ (w5.drew.alloc o).cell? ⟨r, 0, none⟩ = some (.int .u32 (R.msize : Int))) := Lib.hid (fun o => ⟨by rw [World.cell?_of_block (w := w5.drew) (alloc_old _ (hlt5 g hgF))]; exact g1', by rw [World.cell?_of_block (w := w5.drew) (alloc_old _ (hlt5 g hgF))]; exact g2', by rw [World.cell?_of_block (w := w5.drew) (alloc_old _ hltr5)]; exact r0'⟩)
          clear hm5 hcut hlt5 hltr5
          go_wp2_with fail
          refine wp_region_held_drew (S := fun W => W.cell? ⟨g, 1, none⟩ = some (.int .u16 65535) ∧ W.cell? ⟨g, 2, none⟩ = some (.int .u32 ((R.cli n).vsize : Int)) ∧ W.cell? ⟨r, 0, none⟩ = some (.int .u32 (R.msize : Int))) (by kernel_rfl) ⟨g1', g2', r0'⟩ (fun hHeld => ?_)
          refine wpAnyH_take (i := 0) (v := ?_) rfl (by kernel_rfl) (by kernel_rfl) (by kernel_rfl) (fun _ _ _ h => h) (Or.inl ⟨by rfl, ?_⟩) hHeld ?_
          rotate_left
          · intro w hSw
            first | (go_simp; done) | (go_simp; with_reducible rfl)
          try simp only [Act.put, List.setIfInBounds_toArray]
          refine wpAnyH_take (i := 1) (v := ?_) rfl (by kernel_rfl) (by kernel_rfl) (by kernel_rfl) (fun _ _ _ h => h) (Or.inl ⟨by rfl, ?_⟩) hHeld ?_
          rotate_left
          · intro w hSw
            first | (go_simp; done) | (go_simp; with_reducible rfl)
          try simp only [Act.put]
          refine wpAnyH_take (i := 2) (v := ?_) rfl (by kernel_rfl) (by kernel_rfl) (by kernel_rfl) (fun _ _ _ h => h) (Or.inl ⟨by rfl, ?_⟩) hHeld ?_
          rotate_left
          · intro w hSw
            first | (go_simp; done) | (go_simp; with_reducible rfl)
          try simp only [Act.put]
          refine wpAnyH_take (i := 3) (v := ?_) rfl (by kernel_rfl) (by kernel_rfl) (by kernel_rfl) (fun _ _ _ h => h) (Or.inl ⟨by rfl, ?_⟩) hHeld ?_
          rotate_left
          · intro w hSw
            have hc := hSw.1
            first | (go_simp; done) | (go_simp; with_reducible rfl)
          try simp only [Act.put]
          refine wpAnyH_take (i := 4) (v := ?_) rfl (by kernel_rfl) (by kernel_rfl) (by kernel_rfl) (fun _ _ _ h => h) (Or.inl ⟨by rfl, ?_⟩) hHeld ?_
          rotate_left
          · intro w hSw
            first | (go_simp; done) | (go_simp; with_reducible rfl)
          try simp only [Act.put]
          refine wpAnyH_take (i := 5) (v := ?_) rfl (by kernel_rfl) (by kernel_rfl) (by kernel_rfl) (fun _ _ _ h => h) (Or.inl ⟨by rfl, ?_⟩) hHeld ?_
          rotate_left
          · intro w hSw
            first | (go_simp; done) | (go_simp; with_reducible rfl)
          try simp only [Act.put]
          refine wpAnyH_take (i := 6) (v := ?_) rfl (by kernel_rfl) (by kernel_rfl) (by kernel_rfl) (fun _ _ _ h => h) (Or.inl ⟨by rfl, ?_⟩) hHeld ?_
          rotate_left
          · intro w hSw
            first | (go_simp; done) | (go_simp; with_reducible rfl)
          try simp only [Act.put]
          refine wpAnyH_take (i := 7) (v := ?_) rfl (by kernel_rfl) (by kernel_rfl) (by kernel_rfl) (fun _ _ _ h => h) (Or.inl ⟨by rfl, ?_⟩) hHeld ?_
          rotate_left
          · intro w hSw
            have hc := hSw.2.1
            first | (go_simp; done) | (go_simp; with_reducible rfl)
          try simp only [Act.put]
          refine wpAnyH_take (i := 8) (v := ?_) rfl (by kernel_rfl) (by kernel_rfl) (by kernel_rfl) (fun _ _ _ h => h) (Or.inl ⟨by rfl, ?_⟩) hHeld ?_
          rotate_left
          · intro w hSw
            first | (go_simp; done) | (go_simp; with_reducible rfl)
          try simp only [Act.put]
          refine wpAnyH_take (i := 9) (v := ?_) rfl (by kernel_rfl) (by kernel_rfl) (by kernel_rfl) (fun _ _ _ h => h) (Or.inl ⟨by rfl, ?_⟩) hHeld ?_
          rotate_left
          · intro w hSw
            first | (go_simp; done) | (go_simp; with_reducible rfl)
          try simp only [Act.put]
          refine wpAnyH_take (i := 10) (v := ?_) rfl (by kernel_rfl) (by kernel_rfl) (by kernel_rfl) (fun _ _ _ h => h) (Or.inl ⟨by rfl, ?_⟩) hHeld ?_
          rotate_left
          · intro w hSw
            first | (go_simp; done) | (go_simp; with_reducible rfl)
          try simp only [Act.put]
          refine wpAnyH_take (i := 11) (v := ?_) rfl (by kernel_rfl) (by kernel_rfl) (by kernel_rfl) (fun _ _ _ h => h) (Or.inl ⟨by rfl, ?_⟩) hHeld ?_
          rotate_left
          · intro w hSw
            have hc := hSw.2.2
            first | (go_simp; done) | (go_simp; with_reducible rfl)
          try simp only [Act.put]
          refine wpAnyH_take (i := 12) (v := ?_) rfl (by kernel_rfl) (by kernel_rfl) (by kernel_rfl) (fun _ _ _ h => h) (Or.inl ⟨by rfl, ?_⟩) hHeld ?_
          rotate_left
          · intro w hSw
            first | (go_simp; done) | (go_simp; with_reducible rfl)
          try simp only [Act.put]
          refine wpAnyH_take (i := 13) (v := ?_) rfl (by kernel_rfl) (by kernel_rfl) (by kernel_rfl) (fun _ _ _ h => h) (Or.inl ⟨by rfl, ?_⟩) hHeld ?_
          rotate_left
          · intro w hSw
            first | (go_simp; done) | (go_simp; with_reducible rfl)
          try simp only [Act.put]
          refine wpAnyH_ready (rs := [14]) (by kernel_rfl) (by simp) ?_
          refine AllReadyH.cons rfl (fun K2 hK => ?_) ?_
          · go_simp
            refine hK.out _ _ (HALL.out _) (fun hHeld => ?_)
            clear hK K2
            have hg0 : (w5.alloc (.cells #[.int .u8 0, .int .u16 0, .int .u32 0, .string { data := #[] }, .int .u32 0, .string { data := #[] }, .string { data := #[] }, .string { data := #[] }, .int .u16 0, .int .u32 0, .int .u32 0, .slice none 0 0, .slice none 0 0, .int .u8 0, .int .u32 0, .int .u64 0, .int .u8 0, .int .u32 0, .string { data := #[] }, .int .u32 0, .int .u64 0, .int .u32 0, .slice none 0 0, .int .u16 0, .int .u32 0, .int .u8 0, .int .u32 0, .int .u64 0, .int .u32 0, .int .u32 0, .int .u32 0, .int .u64 0, .string { data := #[] }, .string { data := #[] }, .string { data := #[] }, .string { data := #[] }] 47)).drew.heap[w5.heap.size]? = some (.cells #[.int .u8 0, .int .u16 0, .int .u32 0, .string { data := #[] }, .int .u32 0, .string { data := #[] }, .string { data := #[] }, .string { data := #[] }, .int .u16 0, .int .u32 0, .int .u32 0, .slice none 0 0, .slice none 0 0, .int .u8 0, .int .u32 0, .int .u64 0, .int .u8 0, .int .u32 0, .string { data := #[] }, .int .u32 0, .int .u64 0, .int .u32 0, .slice none 0 0, .int .u16 0, .int .u32 0, .int .u8 0, .int .u32 0, .int .u64 0, .int .u32 0, .int .u32 0, .int .u32 0, .int .u64 0, .string { data := #[] }, .string { data := #[] }, .string { data := #[] }, .string { data := #[] }] 47 (0, 0)) := heap_alloc_new _ _
            have hm6 : Mods [] w5 (w5.alloc (.cells #[.int .u8 0, .int .u16 0, .int .u32 0, .string { data := #[] }, .int .u32 0, .string { data := #[] }, .string { data := #[] }, .string { data := #[] }, .int .u16 0, .int .u32 0, .int .u32 0, .slice none 0 0, .slice none 0 0, .int .u8 0, .int .u32 0, .int .u64 0, .int .u8 0, .int .u32 0, .string { data := #[] }, .int .u32 0, .int .u64 0, .int .u32 0, .slice none 0 0, .int .u16 0, .int .u32 0, .int .u8 0, .int .u32 0, .int .u64 0, .int .u32 0, .int .u32 0, .int .u32 0, .int .u64 0, .string { data := #[] }, .string { data := #[] }, .string { data := #[] }, .string { data := #[] }] 47)).drew := ((Mods.refl [] w5).alloc _).drew
            generalize hw6 : (w5.alloc (.cells #[.int .u8 0, .int .u16 0, .int .u32 0, .string { data := #[] }, .int .u32 0, .string { data := #[] }, .string { data := #[] }, .string { data := #[] }, .int .u16 0, .int .u32 0, .int .u32 0, .slice none 0 0, .slice none 0 0, .int .u8 0, .int .u32 0, .int .u64 0, .int .u8 0, .int .u32 0, .string { data := #[] }, .int .u32 0, .int .u64 0, .int .u32 0, .slice none 0 0, .int .u16 0, .int .u32 0, .int .u8 0, .int .u32 0, .int .u64 0, .int .u32 0, .int .u32 0, .int .u32 0, .int .u64 0, .string { data := #[] }, .string { data := #[] }, .string { data := #[] }, .string { data := #[] }] 47)).drew = w6 at *
            rw [show min ((R.cli n).vsize : Int) (R.msize : Int) = ((min (R.cli n).vsize R.msize : Nat) : Int) from by omega]
            have HG0 := Lib.hid hg0
            have HM6 := Lib.hid hm6
            clear hg0 hm6
            refine wpAnyH_ready (rs := [15]) (by kernel_rfl) (by simp) ?_
            refine AllReadyH.cons rfl (fun K2 hK => ?_) ?_
            · refine step_plain rfl (wp_store_row 47 _ _ rfl w5.heap.size (msgC (verM (min (R.cli n).vsize R.msize) wUnknown) nilS nilS nilS).toArray rfl rfl 47 _ HG0.out (info47 _ _ _ _) rfl (msg_one _ _ _ _ nil_plain) ?_)
              have hgz := setRow_heap w6 w5.heap.size _ (msgC (verM (min (R.cli n).vsize R.msize) wUnknown) nilS nilS nilS).toArray 47 _ HG0.out
              have hmz : Mods [] w5 (w6.setRow w5.heap.size (msgC (verM (min (R.cli n).vsize R.msize) wUnknown) nilS nilS nilS).toArray) := mods_row HM6.out _
              generalize hw7 : w6.setRow w5.heap.size (msgC (verM (min (R.cli n).vsize R.msize) wUnknown) nilS nilS nilS).toArray = w7 at *
              have hS7 : w7.cell? ⟨g, 1, none⟩ = some (.int .u16 65535) ∧ w7.cell? ⟨g, 2, none⟩ = some (.int .u32 ((R.cli n).vsize : Int)) ∧ w7.cell? ⟨r, 0, none⟩ = some (.int .u32 (R.msize : Int)) := ⟨by rw [World.cell?_of_block (w := w5) (hmz.block g (HS5.out.lt g hgF) (by simp))]; exact g1', by rw [World.cell?_of_block (w := w5) (hmz.block g (HS5.out.lt g hgF) (by simp))]; exact g2', by rw [World.cell?_of_block (w := w5) (hmz.block r HS5.out.ltr (by simp))]; exact r0'⟩
              refine hK.out _ _ hS7 (fun hHeld => ?_)
              clear hK K2
              have HGZ := Lib.hid hgz
              have HMZ := Lib.hid hmz
              have HS7 := Lib.hid (HS5.out.still hmz)
              have HRW7 := Lib.hid (hmz.heap HRW5.out (by simp))
              clear hgz hmz hS7 hHeld
              refine wpAnyH_done (by kernel_rfl) ?_ _
              have d3 : w7.cell? ⟨w5.heap.size, 3, none⟩ = some (.string wUnknown) := by rw [cell_of_row _ _ _ _ _ _ HGZ.out]; rfl
              have f3 : w7.frozen? ⟨w5.heap.size, 3, none⟩ = false := frozen_of_row _ _ _ _ _ HGZ.out
              by_cases eV : upTo (R.cli n).ver = w9P
              · have hc1 := (upTo_is HCU.out).1 eV
                subst hc1
                have HY : Hid (R.goes n = (R.setCli n { CliP.none with msize := min (R.cli n).vsize R.msize }, [(n, verM (min (R.cli n).vsize R.msize) w9P)])) := Lib.hid (by
                  unfold RelP.goes
                  rw [if_neg (by rw [HNR.out]; simp), HER.out]
                  simp only
                  rw [if_neg (by rw [HEW.out]; simp), if_pos eV]
                  rfl)
                have hgz8 : (w7.setCell ⟨w5.heap.size, 3, none⟩ (.string ⟨#[57, 80, 50, 48, 48, 48]⟩)).heap[w5.heap.size]? = some (.cells (msgC (verM (min (R.cli n).vsize R.msize) w9P) nilS nilS nilS).toArray 47 (0, 0)) := heap_setCell_same _ _ _ _ _ _ HGZ.out
                have hm8 := HMZ.out.setCell (p := ⟨w5.heap.size, 3, none⟩) (Or.inr (Nat.le_refl _)) (.string ⟨#[57, 80, 50, 48, 48, 48]⟩)
                generalize hw8 : w7.setCell ⟨w5.heap.size, 3, none⟩ (.string ⟨#[57, 80, 50, 48, 48, 48]⟩) = w8 at *
                have hrw8 := hm8.heap HRW5.out (by simp)
                have e2 : w8.cell? ⟨w5.heap.size, 2, none⟩ = some (.int .u32 ((min (R.cli n).vsize R.msize : Nat) : Int)) := by rw [cell_of_row _ _ _ _ _ _ hgz8]; rfl
                have e0 : w8.cell? ⟨G.cb (n - 1), 0, none⟩ = some (.int .u32 0) := by rw [cell_of_row _ _ _ _ _ _ hrw8]; rfl
                have ef : w8.frozen? ⟨G.cb (n - 1), 0, none⟩ = false := frozen_of_row _ _ _ _ _ hrw8
                have hgz9 := setOff (i := 0) hrw8 hgz8 (by decide) (.int .u32 ((min (R.cli n).vsize R.msize : Nat) : Int))
                have hrw9 : (w8.setCell ⟨G.cb (n - 1), 0, none⟩ (.int .u32 ((min (R.cli n).vsize R.msize : Nat) : Int))).heap[G.cb (n - 1)]? = some (.cells #[.int .u32 ((min (R.cli n).vsize R.msize : Nat) : Int), .bool false, .pointer none] 85 (0, 0)) := heap_setCell_same _ _ _ _ _ _ hrw8
                have hs9 := (HS5.out.still hm8).setCli (n := n) (p := none) (c := { CliP.none with msize := min (R.cli n).vsize R.msize }) (by simpa [RelP.setCli] using HN.out) (live_ok HOK.out HEW.out HMR.out) (fun q hq e => absurd (by simpa using e : (q.client == n) = true) (by have := (List.any_eq_false.1 HNR.out) q hq; exact this)) ((Mods.refl [G.cb (n - 1)] w8).setCell (p := ⟨G.cb (n - 1), 0, none⟩) (Or.inl (by simp)) (.int .u32 ((min (R.cli n).vsize R.msize : Nat) : Int))) hrw9 rfl
                rw [setCli_twice] at hs9
                generalize hw9 : w8.setCell ⟨G.cb (n - 1), 0, none⟩ (.int .u32 ((min (R.cli n).vsize R.msize : Nat) : Int)) = w9 at *
                have HGZ9 := Lib.hid hgz9
                have HTL := Lib.hid (tells_any hs9 n (verM (min (R.cli n).vsize R.msize) w9P) (by simp [verM, MsgP.zero]) (nil_msgR _ _ rfl rfl rfl) nil_plain HL.out)
                have HIN := Lib.hid (info47 (verM (min (R.cli n).vsize R.msize) w9P) nilS nilS nilS)
                clear eV hgz8 hm8 hrw8 hgz9 hrw9 hs9
                generalize hmc : (msgC (verM (min (R.cli n).vsize R.msize) w9P) nilS nilS nilS).toArray = mc at *
                clear hmc
                go_wp2_with (refine wpList_load_row rfl 47 _ rfl w5.heap.size rfl 47 mc (0, 0) _ HGZ9.out Tryz.underlying47 rfl HIN.out ?_)
                refine HTL.out.mono ?_
                rintro e wt ⟨rfl, o, o1, o2, o3, -⟩
                have I1 := Lib.hid o1
                have I2 := Lib.hid o2
                have I3 := Lib.hid o3
                clear o1 o2 o3
                go_wp2_with fail
                go_end0
                refine ⟨rfl, [o], G, ⟨rfl, rfl⟩, ?_, ?_⟩
                · rw [HY.out]
                  unfold asInt OutV.plain
                  simp [I1.out, I2.out]
                · rw [HY.out]
                  exact I3.out
              · have b1 : (cu1 == [57, 80, 50, 48, 48, 48]) = false := by simpa using fun e => eV ((upTo_is HCU.out).2 e)
                have HY : Hid (R.goes n = (R.setCli n CliP.none, [(n, verM (min (R.cli n).vsize R.msize) wUnknown)])) := Lib.hid (by
                  unfold RelP.goes
                  rw [if_neg (by rw [HNR.out]; simp), HER.out]
                  simp only
                  rw [if_neg (by rw [HEW.out]; simp), if_neg eV]
                  rfl)
                have HTL := Lib.hid (tells_any HS7.out n (verM (min (R.cli n).vsize R.msize) wUnknown) (by simp [verM, MsgP.zero]) (nil_msgR _ _ rfl rfl rfl) nil_plain HL.out)
                have HIN := Lib.hid (info47 (verM (min (R.cli n).vsize R.msize) wUnknown) nilS nilS nilS)
                clear eV
                generalize hmc : (msgC (verM (min (R.cli n).vsize R.msize) wUnknown) nilS nilS nilS).toArray = mc at *
                clear hmc
                go_wp2_with (refine wpList_load_row rfl 47 _ rfl w5.heap.size rfl 47 mc (0, 0) _ HGZ.out Tryz.underlying47 rfl HIN.out ?_)
                refine HTL.out.mono ?_
                rintro e wt ⟨rfl, o, o1, o2, o3, -⟩
                have I1 := Lib.hid o1
                have I2 := Lib.hid o2
                have I3 := Lib.hid o3
                clear o1 o2 o3
                go_wp2_with fail
                go_end0
                refine ⟨rfl, [o], G, ⟨rfl, rfl⟩, ?_, ?_⟩
                · rw [HY.out]
                  unfold asInt OutV.plain
                  simp [I1.out, I2.out]
                · rw [HY.out]
                  exact I3.out
            exact AllReadyH.nil
          exact AllReadyH.nil
    · intro x c w2 hx hxT hxM hR2 hm2 hs2 hl2 hen
      obtain ⟨q, hq, e⟩ := List.mem_map.1 hxM
      simp only [Prod.mk.injEq] at e
      obtain ⟨rfl, rfl⟩ := e
      have hmm := HM.out.trans hm2 (fun b hb => Or.inr (by simp at hb; omega))
      have HMM := Lib.hid hmm
      obtain ⟨-, cs, vu, vt, g0, -, -, -, g36, -⟩ := (HREL.out.still hmm).req q hq
      have c36 : w2.cell? ⟨G.rb q.id, 36, none⟩ = some (.int .i64 (q.client : Int)) := by rw [cell_of_row _ _ _ _ _ _ g0]; exact g36
      have HQ := Lib.hid hq
      have HR2 := Lib.hid hR2
      have HL2 := Lib.hid hl2
      clear g0 g36 hmm hm2 hs2 hxM hxT hq hR2 hl2
      by_cases e1 : q.client = n
      · have b1 : ((q.client : Int) == (n : Int)) = true := by simpa using (by omega : (q.client : Int) = n)
        have HY : Hid (R.goes n = (R, [])) := Lib.hid (by
          unfold RelP.goes
          rw [if_pos (List.any_eq_true.2 ⟨q, HQ.out, by simpa using e1⟩)])
        clear e1
        go_wp2_with fail
        refine bodyPost_ret (results_none rfl _ _ _) rfl ?_
        refine ⟨rfl, [], G, ⟨rfl, rfl⟩, by rw [HY.out]; rfl, ?_⟩
        rw [HY.out, List.append_nil]
        exact H.out.still HMM.out
      · have b1 : ((q.client : Int) == (n : Int)) = false := by simpa using (by omega : ¬ (q.client : Int) = n)
        have HI : Hid (∃ T', PRange KU w2 G.ub it (reqM R G) T' ∧ Mods [] w w2 ∧ ∀ p ∈ R.reqs, (p.num, G.rb p.id) ∉ T' → p.client ≠ n) := Lib.hid ⟨_, HR2.out, HMM.out, fun p hp hn => by
          by_cases ep : p.num = q.num
          · rcases em_pair HREL.out.wf HQ.out hp ep with rfl
            exact e1
          · exact HNO.out p hp (fun hm => hn (List.mem_filter.2 ⟨hm, by simpa using ep⟩))⟩
        clear e1
        go_wp2_with fail
        exact ⟨HI.out, HL2.out⟩
end
end Go.Proofs.YtlgoeipgmjcboaaGreatDoor
