/- end: a client's session is ending from now on. | end, walked. -/
import Derived.Test.YtlgoeipgmjcboaaGreatDoorJz
namespace Go.Proofs.YtlgoeipgmjcboaaGreatDoor
open Go.RowKit Me
def lost (n : Nat) (q : ReqP) : ReqP := if q.client == n then { q with lost := true } else q
theorem lost_id (n : Nat) (q : ReqP) : (lost n q).id = q.id ∧ (lost n q).num = q.num ∧ (lost n q).client = q.client ∧ (lost n q).own = q.own ∧ (lost n q).kind = q.kind ∧ (lost n q).tag = q.tag ∧ (lost n q).uses = q.uses ∧ (lost n q).fresh = q.fresh ∧ (lost n q).names = q.names := by
  unfold lost
  split <;> exact ⟨rfl, rfl, rfl, rfl, rfl, rfl, rfl, rfl, rfl⟩
theorem lost_no {n : Nat} {q : ReqP} (h : (lost n q).lost = false) : q.client ≠ n ∧ q.lost = false := by
  unfold lost at h
  split at h
  · cases h
  · rename_i e
    exact ⟨by simpa using e, h⟩
section
variable {w0 w w' : World} {F0 K : List Nat} {r n : Nat} {R R' : RelP} {U : Nat → Nat} {G G' : Gh} {L : List OutV} {vo : Value}
theorem lose_reqs (c : CliP) : ((R.setCli n c).lose n).reqs = R.reqs.map (lost n) := rfl
theorem lose_used (c : CliP) : ((R.setCli n c).lose n).used = R.used := by
  funext i
  unfold RelP.used
  rw [lose_reqs, List.map_map]
  congr 1
  refine List.map_congr_left fun q _ => ?_
  simp only [Function.comp, (lost_id n q).2.2.2.2.2.2.1]
theorem RelP.Wf.lose (h : R.Wf) (hn : 1 ≤ n ∧ n ≤ R.clients.length) {c : CliP} (hc : c.Ok R) : ((R.setCli n c).lose n).Wf := by
  have hlen : ((R.setCli n c).lose n).clients.length = R.clients.length := by simp [RelP.setCli, RelP.lose]
  refine ⟨h.msize, h.fids, h.tags, by rw [hlen]; exact h.many, fun d hd => ?_, fun l hl => by rw [hlen]; exact h.link l hl, h.links, fun q hq => ?_, ?_, fun q hq => ?_⟩
  · rcases List.mem_or_eq_of_mem_set hd with hd | rfl
    · exact h.cli d hd
    · exact hc
  · rw [lose_reqs] at hq
    obtain ⟨p, hp, rfl⟩ := List.mem_map.1 hq
    obtain ⟨i1, i2, i3, i4, i5, i6, i7, i8, i9⟩ := lost_id n p
    obtain ⟨g1, g2, g3, g4, g5, g6, g7, g8, g9, g10, g11⟩ := h.req p hp
    rw [hlen, i1, i2, i3, i4, i5, i6, i7, i8]
    refine ⟨g1, g2, g3, g4, g5, g6, g7, g8, g9, fun e1 e2 => ?_, g11⟩
    obtain ⟨e3, e4⟩ := lost_no e2
    have : ((R.setCli n c).lose n).cli p.client = R.cli p.client := by
      have := cli_set hn c p.client g4
      rw [if_neg e3] at this
      exact this
    rw [this]
    exact g10 e1 e4
  · rw [lose_reqs, List.pairwise_map]
    refine h.reqs.imp fun {a b} hab => ?_
    obtain ⟨i1, i2, i3, i4, i5, i6, i7, i8, i9⟩ := lost_id n a
    obtain ⟨j1, j2, j3, j4, j5, j6, j7, j8, j9⟩ := lost_id n b
    rw [i1, i2, i3, i4, i6, j1, j2, j3, j4, j6]
    exact hab
  · rw [lose_reqs] at hq
    obtain ⟨p, hp, rfl⟩ := List.mem_map.1 hq
    rw [(lost_id n p).2.2.2.2.2.2.2.2]
    exact h.names p hp
theorem IsThen.same {q : ReqP} {v : Value} (h : IsThen w r G R q v) (hs : ∀ p ∈ R'.reqs, ∃ p0 ∈ R.reqs, p0.id = p.id ∧ p0.num = p.num) : IsThen w r G R' q v := by
  rcases h with ⟨k, c1, c2, e, f1, f2, g1, g2, f3, ⟨cs', t, g3, g4, g5, g6⟩, g7⟩ | h
  · refine Or.inl ⟨k, c1, c2, e, f1, f2, g1, g2, f3, ⟨cs', t, g3, g4, g5, fun p hp hi => ?_⟩, fun p hp hi => ?_⟩
    · obtain ⟨p0, h0, e1, e2⟩ := hs p hp
      rw [← e2]
      exact g6 p0 h0 (e1.trans hi)
    · obtain ⟨p0, h0, e1, e2⟩ := hs p hp
      rw [← e1] at hi ⊢
      exact g7 p0 h0 hi
  · exact Or.inr h
theorem IsReq.same {q : ReqP} (h : IsReq w r G R q) (hs : ∀ p ∈ R'.reqs, ∃ p0 ∈ R.reqs, p0.id = p.id ∧ p0.num = p.num) : IsReq w r G R' q := by
  obtain ⟨hb, cs, vu, vt, e1, e2, e3, e4, e5, e6, e7, e8, e9, e10, e11, e12⟩ := h
  exact ⟨hb, cs, vu, vt, e1, e2, e3, e4, e5, e6, e7, e8, e9, e10, e11, e12.same hs⟩
/-- A request's cell that no flush looks at is written. -/
theorem IsThen.setReq {q : ReqP} {v : Value} {b i : Nat} {u : Value} {cs : Array Value} (h : IsThen w r G R q v) (hb : w.heap[b]? = some (.cells cs 115 (0, 0))) (hi : i ≠ 1) : IsThen (w.setCell ⟨b, i, none⟩ u) r G R q v := by
  have hk := (KeepT.set (F := G.F) (i := i) (v := u) hb).toKeepC
  rcases h with ⟨k, c1, c2, e, f1, f2, g1, g2, f3, ⟨cs', t, g3, g4⟩, g5⟩ | ⟨k, c1, c2, c3, c4, vu', e, f1, f2, f3, f4, g1, g2, g3, g4, g5⟩
  · refine Or.inl ⟨k, c1, c2, e, f1, f2, hk.cells _ _ _ _ f1 (by decide) g1, hk.cells _ _ _ _ f2 (by decide) g2, f3, ?_, g5⟩
    by_cases e' : G.rb q.names = b
    · rw [e'] at g3 ⊢
      rw [hb] at g3
      cases g3
      refine ⟨_, t, heap_setCell_same _ _ _ _ _ _ hb, ?_, g4.2⟩
      rw [Array.getElem?_setIfInBounds, if_neg hi]
      exact g4.1
    · exact ⟨cs', t, by rw [heap_setCell_other _ _ _ _ e']; exact g3, g4⟩
  · exact Or.inr ⟨k, c1, c2, c3, c4, vu', e, f1, f2, f3, f4, hk.cells _ _ _ _ f1 (by decide) g1, hk.cells _ _ _ _ f2 (by decide) g2, g3.keepT hk (by decide), hk.cells _ _ _ _ f3 (by decide) g4, hk.cells _ _ _ _ f4 (by decide) g5⟩
theorem IsReq.setOther {q : ReqP} {b i : Nat} {u : Value} {cs : Array Value} (h : IsReq w r G R q) (hb : w.heap[b]? = some (.cells cs 115 (0, 0))) (hi : i ≠ 1) (hne : G.rb q.id ≠ b) : IsReq (w.setCell ⟨b, i, none⟩ u) r G R q := by
  have hk := (KeepT.set (F := G.F) (i := i) (v := u) hb).toKeepC
  obtain ⟨hF, cs', vu, vt, e1, e2, e3, e4, e5, e6, e7, e8, e9, e10, e11, e12⟩ := h
  exact ⟨hF, cs', vu, vt, by rw [heap_setCell_other _ _ _ _ hne]; exact e1, e2, e3, e4, e5, e6, e7, e8, e9, e10, e11.keepT hk (by decide), e12.setReq hb hi⟩
theorem IsReq.setLost {q : ReqP} (h : IsReq w r G R q) : IsReq (w.setCell ⟨G.rb q.id, 39, none⟩ (.bool true)) r G R { q with lost := true } := by
  obtain ⟨hF, cs, vu, vt, e1, e2, e3, e4, e5, e6, e7, e8, e9, e10, e11, e12⟩ := h
  have hk := (KeepT.set (F := G.F) (i := 39) (v := .bool true) e1).toKeepC
  have hx : ∀ (j : Nat) (x : Value), j ≠ 39 → cs[j]? = some x → (cs.setIfInBounds 39 (.bool true))[j]? = some x := fun j x hj hx => by
    rw [Array.getElem?_setIfInBounds, if_neg (Ne.symm hj)]
    exact hx
  refine ⟨hF, cs.setIfInBounds 39 (.bool true), vu, vt, heap_setCell_same _ _ _ _ _ _ e1, by simpa using e2, hx _ _ (by decide) e3, hx _ _ (by decide) e4, hx _ _ (by decide) e5, hx _ _ (by decide) e6, hx _ _ (by decide) e7, ?_, hx _ _ (by decide) e9, hx _ _ (by decide) e10, e11.keepT hk (by decide), ?_⟩
  · rw [Array.getElem?_setIfInBounds, if_pos rfl, e2]
    rfl
  · have := e12.setReq (i := 39) (u := .bool true) e1 (by decide)
    rcases this with ⟨k, x⟩ | ⟨k, x⟩
    · exact Or.inl ⟨k, x⟩
    · exact Or.inr ⟨k, x⟩
/-- Those of a client that are not to come any more are lost. -/
def markT (G : Gh) (n : Nat) (T : List (Nat × Nat)) (q : ReqP) : ReqP := if (q.num, G.rb q.id) ∈ T then q else lost n q
theorem markT_id (T : List (Nat × Nat)) (q : ReqP) : (markT G n T q).id = q.id ∧ (markT G n T q).client = q.client := by
  unfold markT
  split
  · exact ⟨rfl, rfl⟩
  · exact ⟨(lost_id n q).1, (lost_id n q).2.2.1⟩
end
end Go.Proofs.YtlgoeipgmjcboaaGreatDoor
namespace Go.Proofs.YtlgoeipgmjcboaaGreatDoor
open Go.RowKit Me
section
variable {w0 w w' : World} {F0 K : List Nat} {r n : Nat} {R R' : RelP} {U : Nat → Nat} {G G' : Gh} {L : List OutV} {vo : Value}
theorem KeepT.mods {T : TypeId} {F X : List Nat} (hm : Mods X w w') (hX : ∀ k ∈ F, k ∉ X) : KeepT T F w w' where
  size := hm.size
  cells := fun b _ _ _ hb _ e => hm.heap e (hX b hb)
  maps := fun b _ _ hb e => hm.heap e (hX b hb)
theorem IsReq.mods {q : ReqP} {X : List Nat} (h : IsReq w r G R q) (hm : Mods X w w') (hX : ∀ k ∈ G.F, k ∉ X) : IsReq w' r G R q :=
  h.keepT (KeepT.mods (T := 0) hm hX).toKeepC (by decide) (by decide) (by decide) (by decide) (by decide) (by decide) (by decide)
theorem IsRel.lose {wA : World} {c : CliP} (h : IsRel w r R U G vo) (hn : 1 ≤ n ∧ n ≤ R.clients.length) (hc : c.Ok R) (hm : Mods [G.cb (n - 1)] w wA) (hk : KeepT 115 G.F wA w') (hcl : IsCli w' G.F (G.cb (n - 1)) c) (hq : ∀ q ∈ R.reqs, IsReq w' r G R (lost n q)) :
    IsRel w' r ((R.setCli n c).lose n) U G vo := by
  obtain ⟨hb, p, e1, -⟩ := h.cli (n - 1) (R.cli n) (cli_at hn)
  have hk1 : Keep2 G.F w wA := Keep2.mods hm (fun k hk => by
    simp at hk
    subst hk
    exact ⟨_, _, _, e1, Or.inl rfl⟩)
  have hk2 : Keep2 G.F w w' := hk1.trans ⟨hk.size, fun b cs t fr hb _ h2 e => hk.cells b cs t fr hb h2 e, hk.maps⟩
  have hcl' : ∀ q : ReqP, q ∈ ((R.setCli n c).lose n).reqs → ∃ p0 ∈ R.reqs, p0.id = q.id ∧ p0.num = q.num := fun q hq => by
    rw [lose_reqs] at hq
    obtain ⟨p, hp, rfl⟩ := List.mem_map.1 hq
    exact ⟨p, hp, (lost_id n p).1.symm, (lost_id n p).2.1.symm⟩
  refine h.re (h.wf.lose hn hc) hk2 ⟨rfl, rfl, rfl, by simp [RelP.setCli, RelP.lose]⟩ rfl ?_ (fun i d hi => ?_) (fun q hq' => ?_)
  · rw [lose_reqs, List.map_map]
    refine List.map_congr_left fun q _ => ?_
    simp only [Function.comp, (lost_id n q).1, (lost_id n q).2.1]
  · by_cases e : i = n - 1
    · subst e
      have : ((R.setCli n c).lose n).clients[n - 1]? = some c := by
        unfold RelP.lose RelP.setCli
        rw [List.getElem?_set_self (by omega)]
      rw [this] at hi
      cases hi
      exact hcl
    · have hi' : R.clients[i]? = some d := by
        rw [← hi]
        unfold RelP.lose RelP.setCli
        rw [List.getElem?_set_ne (by omega)]
      have hic := h.cli i d hi'
      have hil : i < R.clients.length := (List.getElem?_eq_some_iff.1 hi').1
      have hA : IsCli wA G.F (G.cb i) d := hic.keep2 hk1 (hm.block _ (h.lt _ hic.1) (fun e' => e (by
        simp at e'
        exact h.cbi i (n - 1) hil (by omega) e')))
      exact hA.keepT hk.toKeepC (by decide) (by decide)
  · rw [lose_reqs] at hq'
    obtain ⟨p, hp, rfl⟩ := List.mem_map.1 hq'
    exact (hq p hp).same hcl'
set_option maxRecDepth 100000 in
set_option maxHeartbeats 4000000 in
theorem end_any {p : Option Addr} {waits : Bool} {ver : ByteArray} {vsize : Nat} (h : St w0 F0 K r R R.used G L w) (he : Env w0 F0) (hn : 1 ≤ n ∧ n ≤ R.clients.length) (hc : (CliP.mk (R.cli n).msize true waits ver vsize).Ok R) (hp0 : waits = false → p = none)
    (hp1 : waits = true → ∃ g m vn vq vd, p = some ⟨g, 0, none⟩ ∧ g ∈ G.F ∧ w.heap[g]? = some (.cells (msgC m vn vq vd).toArray 47 (0, 0)) ∧ m.tag = 65535 ∧ m.version = ver ∧ m.msize = vsize) (hL : L.length ≤ 900) :
    Calls Tryz.prog 51 #[.pointer (some ⟨r, 0, none⟩), .int .i64 (n : Int), .pointer (some ⟨G.cb (n - 1), 0, none⟩), .pointer p] w fun e w' => e = .returned (.tuple #[]) ∧ Went w0 F0 K r (R.ends n waits ver vsize) G L w' := by
  obtain ⟨vo, h1, h2, h3, h4⟩ := h.ex
  obtain ⟨hbF, p0, hrow, -⟩ := h1.cli (n - 1) (R.cli n) (cli_at hn)
  have q1 : w.cell? ⟨G.cb (n - 1), 1, none⟩ = some (.bool (R.cli n).ending) := by rw [cell_of_row _ _ _ _ _ _ hrow]; rfl
  have q2 : w.cell? ⟨G.cb (n - 1), 2, none⟩ = some (.pointer p0) := by rw [cell_of_row _ _ _ _ _ _ hrow]; rfl
  have qf1 : w.frozen? ⟨G.cb (n - 1), 1, none⟩ = false := frozen_of_row _ _ _ _ _ hrow
  have qf2 : w.frozen? ⟨G.cb (n - 1), 2, none⟩ = false := frozen_of_row _ _ _ _ _ hrow
  have hrA : ((w.setCell ⟨G.cb (n - 1), 1, none⟩ (.bool true)).setCell ⟨G.cb (n - 1), 2, none⟩ (.pointer p)).heap[G.cb (n - 1)]? = some (.cells #[.int .u32 ((R.cli n).msize : Int), .bool true, .pointer p] 85 (0, 0)) := heap_setCell_same _ _ _ _ _ _ (heap_setCell_same _ _ _ _ _ _ hrow)
  have hmA : Mods [G.cb (n - 1)] w ((w.setCell ⟨G.cb (n - 1), 1, none⟩ (.bool true)).setCell ⟨G.cb (n - 1), 2, none⟩ (.pointer p)) := ((Mods.refl [G.cb (n - 1)] w).setCell (p := ⟨G.cb (n - 1), 1, none⟩) (Or.inl (by simp)) _).setCell (p := ⟨G.cb (n - 1), 2, none⟩) (Or.inl (by simp)) _
  have hkA : KeepT 85 G.F w ((w.setCell ⟨G.cb (n - 1), 1, none⟩ (.bool true)).setCell ⟨G.cb (n - 1), 2, none⟩ (.pointer p)) := (KeepT.set hrow).trans (KeepT.set (heap_setCell_same _ _ _ _ _ _ hrow))
  generalize hwA : (w.setCell ⟨G.cb (n - 1), 1, none⟩ (.bool true)).setCell ⟨G.cb (n - 1), 2, none⟩ (.pointer p) = wA at *
  have c5 : wA.cell? ⟨r, 5, none⟩ = some (.map (some G.ub)) := by
    rw [cell_of_row _ _ _ _ _ _ (hkA.cells _ _ _ _ h1.here.1 (by decide) h1.cells)]
    rfl
  have HU : Hid (PMap KU wA G.ub (reqM R G)) := Lib.hid (PMap.keepT h1.under h1.here.2.2.2 hkA)
  have HLT : Hid (∀ k ∈ G.F, k < wA.heap.size) := Lib.hid (fun k hk => Nat.lt_of_lt_of_le (h1.lt k hk) hmA.size)
  have HQA : Hid (∀ q ∈ R.reqs, IsReq wA r G R q) := Lib.hid (fun q hq => (h1.req q hq).keepT hkA.toKeepC (by decide) (by decide) (by decide) (by decide) (by decide) (by decide) (by decide))
  have HUB : Hid (G.ub ∈ G.F) := Lib.hid h1.here.2.2.2
  have HRA := Lib.hid hrA
  have HMA := Lib.hid hmA
  have HREL := Lib.hid h1
  have HOUT := Lib.hid h2
  have H3 := Lib.hid h3
  have H4 := Lib.hid h4
  have H := Lib.hid h
  have HE := Lib.hid he
  have HN := Lib.hid hn
  have HC := Lib.hid hc
  have HL := Lib.hid hL
  have HP0 := Lib.hid hp0
  have HP1 : Hid (waits = true → ∃ g m vn vq vd, p = some ⟨g, 0, none⟩ ∧ g ∈ G.F ∧ wA.heap[g]? = some (.cells (msgC m vn vq vd).toArray 47 (0, 0)) ∧ m.tag = 65535 ∧ m.version = ver ∧ m.msize = vsize) := Lib.hid (fun e => by
    obtain ⟨g, m, vn, vq, vd, a1, a2, a3, a4⟩ := hp1 e
    exact ⟨g, m, vn, vq, vd, a1, a2, hkA.cells _ _ _ _ a2 (by decide) a3, a4⟩)
  clear h he hn hc hL hp0 hp1 h1 h2 h3 h4 hrow hrA hmA hkA
  go_enter Tryz.func51, Tryz.ntmps51
  go_wp2_with (at_range; refine wpList_range_pm _ rfl _ 78 rfl 109 Tryz.underlying78 G.ub (reqM R G) rfl HU.out ?_; intro wI hR hmI hsI; have HR := Lib.hid hR; have HMI := Lib.hid hmI; clear hR hmI hsI; go_frame)
  generalize hit : wA.heap.size = it at *
  have HIT := Lib.hid hit
  clear hit
  go_loopw [9] (fun _ wr => ∃ T, PRange KU wr G.ub it (reqM R G) T ∧ KeepT 115 G.F wA wr ∧ Mods G.F wA wr ∧ ∀ q ∈ R.reqs, IsReq wr r G R (markT G n T q)) (fun _ wr => wr.rangeLeft G.ub it)
  case atStart =>
    refine ⟨_, HR.out, KeepT.mods HMI.out (by simp), HMI.out.mono (by simp), fun q hq => ?_⟩
    unfold markT
    rw [if_pos (show (q.num, G.rb q.id) ∈ reqM R G from List.mem_map.2 ⟨q, hq, rfl⟩)]
    exact (HQA.out q hq).mods HMI.out (by simp)
  case round =>
    obtain ⟨T, hT, hkt, hm, hqs⟩ := hrel
    have HTT := Lib.hid hT
    have HKT := Lib.hid hkt
    have HM := Lib.hid hm
    have HQS := Lib.hid hqs
    clear hT hkt hm hqs
    go_wp2_with (at_next; refine wpList_next_pm _ rfl _ rfl G.ub it (reqM R G) _ rfl HTT.out ?_ ?_)
    · intro hT0
      have hst : St w0 F0 K r ((R.setCli n ⟨(R.cli n).msize, true, waits, ver, vsize⟩).lose n) ((R.setCli n ⟨(R.cli n).msize, true, waits, ver, vsize⟩).lose n).used G L wr := by
        have hF : ∀ k ∈ [G.cb (n - 1)], k ∈ G.F := by simpa using hbF
        have hmw : Mods G.F w wr := (HMA.out.mono (fun k hk => Or.inl (hF k hk))).trans HM.out (fun k hk => Or.inl hk)
        rw [lose_used]
        refine ⟨⟨vo, HREL.out.lose HN.out HC.out HMA.out HKT.out ⟨hbF, p, HKT.out.cells _ _ _ _ hbF (by decide) HRA.out, fun _ e => HP0.out e, fun _ e => ?_⟩ (fun q hq => ?_), HOUT.out.modsX hmw (fun k hk hk' => H3.out k hk' hk), H3.out, fun k hk => ⟨Nat.lt_of_lt_of_le (H4.out k hk).1 hmw.size, (H4.out k hk).2⟩⟩, H.out.mods.trans hmw H.out.sub, H.out.sub⟩
        · obtain ⟨g, m, vn, vq, vd, a1, a2, a3, a4⟩ := HP1.out e
          exact ⟨g, m, vn, vq, vd, a1, a2, HKT.out.cells _ _ _ _ a2 (by decide) a3, a4⟩
        · have := HQS.out q hq
          rw [hT0] at this
          exact this
      have HGO := Lib.hid (goOn_any hst HE.out HL.out)
      clear hT0 hst
      go_wp2_with fail
      refine HGO.out.mono ?_
      rintro e w3 ⟨rfl, hw⟩
      have HW := Lib.hid hw
      clear hw
      go_wp2_with fail
      go_end0
      exact ⟨rfl, HW.out⟩
    · intro x c w2 hx hxT hxM hR2 hm2 hs2 hl2 hen
      obtain ⟨q, hq, e⟩ := List.mem_map.1 hxM
      simp only [Prod.mk.injEq] at e
      obtain ⟨rfl, rfl⟩ := e
      have hFX : ∀ k ∈ G.F, k ∉ [it] := fun k hk hk' => by
        have := HLT.out k hk
        have := HIT.out
        simp at hk'
        omega
      have hq2 : ∀ p ∈ R.reqs, IsReq w2 r G R (markT G n T p) := fun p hp => (HQS.out p hp).mods hm2 hFX
      have hqq : IsReq w2 r G R q := by
        have := hq2 q hq
        unfold markT at this
        rw [if_pos hxT] at this
        exact this
      obtain ⟨hrbF, cs, vu, vt, g0, -, -, -, g36, -, -, g39, -⟩ := id hqq
      have c36 : w2.cell? ⟨G.rb q.id, 36, none⟩ = some (.int .i64 (q.client : Int)) := by rw [cell_of_row _ _ _ _ _ _ g0]; exact g36
      have c39 : w2.cell? ⟨G.rb q.id, 39, none⟩ = some (.bool q.lost) := by rw [cell_of_row _ _ _ _ _ _ g0]; exact g39
      have f39 : w2.frozen? ⟨G.rb q.id, 39, none⟩ = false := frozen_of_row _ _ _ _ _ g0
      have hk2 : KeepT 115 G.F wA w2 := HKT.out.trans (KeepT.mods hm2 hFX)
      have hmm2 : Mods G.F wA w2 := HM.out.trans hm2 (fun k hk => Or.inr (by have := HIT.out; simp at hk; omega))
      have hmark : ∀ p ∈ R.reqs, p ≠ q → markT G n (T.filter fun e => decide (e.1 ≠ q.num)) p = markT G n T p := fun p hp hne => by
        have hnum : p.num ≠ q.num := fun e => hne (em_pair HREL.out.wf hq hp e)
        unfold markT
        by_cases hin : (p.num, G.rb p.id) ∈ T
        · rw [if_pos hin, if_pos (List.mem_filter.2 ⟨hin, by simpa using hnum⟩)]
        · rw [if_neg hin, if_neg (fun h => hin (List.mem_filter.1 h).1)]
      have hmq : markT G n (T.filter fun e => decide (e.1 ≠ q.num)) q = lost n q := by
        unfold markT
        rw [if_neg (fun h => by simpa using (List.mem_filter.1 h).2)]
      by_cases e1 : q.client = n
      · have b1 : ((q.client : Int) == (n : Int)) = true := by simpa using (by omega : (q.client : Int) = n)
        have hm3 : Mods [G.rb q.id] w2 (w2.setCell ⟨G.rb q.id, 39, none⟩ (.bool true)) := (Mods.refl [G.rb q.id] w2).setCell (p := ⟨G.rb q.id, 39, none⟩) (Or.inl (by simp)) _
        have n1 : G.ub ∉ [G.rb q.id] := fun e => by
          simp at e
          obtain ⟨D, ⟨es, clock, hmp, _⟩, _⟩ := HU.out
          have := (hk2.maps _ _ _ HUB.out hmp)
          rw [e, g0] at this
          cases this
        have n2 : it ∉ [G.rb q.id] := fun e => hFX _ hrbF (by simp at e; simp [e])
        have HI : Hid (∃ T', PRange KU (w2.setCell ⟨G.rb q.id, 39, none⟩ (.bool true)) G.ub it (reqM R G) T' ∧ KeepT 115 G.F wA (w2.setCell ⟨G.rb q.id, 39, none⟩ (.bool true)) ∧ Mods G.F wA (w2.setCell ⟨G.rb q.id, 39, none⟩ (.bool true)) ∧ ∀ p ∈ R.reqs, IsReq (w2.setCell ⟨G.rb q.id, 39, none⟩ (.bool true)) r G R (markT G n T' p)) := Lib.hid (by
          refine ⟨_, hR2.mods hm3 n1 n2, hk2.trans (KeepT.set g0), hmm2.trans hm3 (fun k hk => Or.inl (by simp at hk; rw [hk]; exact hrbF)), fun p hp => ?_⟩
          by_cases ep : p = q
          · subst ep
            have e2 := hmq
            simp only [decide_not] at e2 ⊢
            rw [e2]
            have : lost n p = { p with lost := true } := by
              unfold lost
              rw [if_pos (by simpa using e1)]
            rw [this]
            exact hqq.setLost
          · have e2 := hmark p hp ep
            simp only [decide_not] at e2 ⊢
            rw [e2]
            refine (hq2 p hp).setOther g0 (by decide) (fun e => ep ?_)
            rw [(markT_id T p).1] at e
            exact em_id HREL.out.wf hq hp (HREL.out.rbi p hp q hq e))
        have HL2 : Hid ((w2.setCell ⟨G.rb q.id, 39, none⟩ (.bool true)).rangeLeft G.ub it < wr.rangeLeft G.ub it) := Lib.hid (by rw [hR2.left hm3 n1 n2]; exact hl2)
        clear g0 g36 g39 hm2 hs2 hxM hxT hq hR2 hl2 hq2 hqq hk2 hmm2 hmark hmq e1 hm3 n1 n2 hFX hrbF
        go_wp2_with fail
        exact ⟨HI.out, HL2.out⟩
      · have b1 : ((q.client : Int) == (n : Int)) = false := by simpa using (by omega : ¬ (q.client : Int) = n)
        have HI : Hid (∃ T', PRange KU w2 G.ub it (reqM R G) T' ∧ KeepT 115 G.F wA w2 ∧ Mods G.F wA w2 ∧ ∀ p ∈ R.reqs, IsReq w2 r G R (markT G n T' p)) := Lib.hid (by
          refine ⟨_, hR2, hk2, hmm2, fun p hp => ?_⟩
          by_cases ep : p = q
          · subst ep
            have e2 := hmq
            simp only [decide_not] at e2 ⊢
            rw [e2]
            have : lost n p = p := by
              unfold lost
              rw [if_neg (by simpa using e1)]
            rw [this]
            exact hqq
          · have e2 := hmark p hp ep
            simp only [decide_not] at e2 ⊢
            rw [e2]
            exact hq2 p hp)
        have HL2 := Lib.hid hl2
        clear g0 g36 g39 hm2 hs2 hxM hxT hq hR2 hl2 hq2 hqq hk2 hmm2 hmark hmq e1 hFX hrbF
        go_wp2_with fail
        exact ⟨HI.out, HL2.out⟩
end
end Go.Proofs.YtlgoeipgmjcboaaGreatDoor
