/- send: a request goes to the server. (Its second part is printed by wip/bin/mkjq.py.) -/
import Derived.Test.YtlgoeipgmjcboaaGreatDoorJp
import Derived.Test.YtlgoeipgmjcboaaGreatDoorJf
namespace Go.Proofs.YtlgoeipgmjcboaaGreatDoor
open Go.RowKit Me
/-- A request that is ready to be sent: it lies in b; what is its own is X. -/
structure Ready (w : World) (r : Nat) (R : RelP) (G : Gh) (X : List Nat) (b : Nat) (q : ReqP) (m : MsgP) (vn vq vd vu vx vt : Value) : Prop where
  row : w.heap[b]? = some (.cells (reqC m vn vq vd q.client q.own q.tag q.lost vu vx vt).toArray 115 (0, 0))
  kind : m.kind = q.kind
  lists : OwnM w 0 m vn vq vd
  small : m.names.length ≤ 100000000 ∧ m.qids.length ≤ 100000000 ∧ m.data.length ≤ 100000000
  uses : LRow w (G.req X b (R.made + 1)) vu q.uses
  do_ : IsThen w r (G.req X b (R.made + 1)) R q vt
  mem : b ∈ X
  named : q.kind = 108 → G.rb q.names ∈ G.F
section
theorem IsThen.setB {w : World} {r : Nat} {R : RelP} {G : Gh} {q : ReqP} {v : Value} {b i : Nat} {u : Value} {cs : Array Value} {fr : Nat × Nat} (h : IsThen w r G R q v) (hb : w.heap[b]? = some (.cells cs 115 fr)) (hn : q.kind = 108 → G.rb q.names ≠ b) :
    IsThen (w.setCell ⟨b, i, none⟩ u) r G R q v := by
  have hk : KeepT 115 G.F w (w.setCell ⟨b, i, none⟩ u) := KeepT.set hb
  have hk := hk.toKeepC
  rcases h with ⟨k, c1, c2, e, f1, f2, g1, g2, f3, ⟨cs', t, g3, g4⟩, g5⟩ | ⟨k, c1, c2, c3, c4, vu', e, f1, f2, f3, f4, g1, g2, g3, g4, g5⟩
  · exact Or.inl ⟨k, c1, c2, e, f1, f2, hk.cells _ _ _ _ f1 (by decide) g1, hk.cells _ _ _ _ f2 (by decide) g2, f3, ⟨cs', t, by rw [heap_setCell_other _ _ _ _ (hn k)]; exact g3, g4⟩, g5⟩
  · exact Or.inr ⟨k, c1, c2, c3, c4, vu', e, f1, f2, f3, f4, hk.cells _ _ _ _ f1 (by decide) g1, hk.cells _ _ _ _ f2 (by decide) g2, g3.keepT hk (by decide), hk.cells _ _ _ _ f3 (by decide) g4, hk.cells _ _ _ _ f4 (by decide) g5⟩
def listB (vn vq vd : Value) : List Nat := vn.ownBlock.toList ++ vq.ownBlock.toList ++ vd.ownBlock.toList
theorem OwnM.not {w : World} {base b : Nat} {m : MsgP} {vn vq vd : Value} {cs : Array Value} {T : TypeId} {fr : Nat × Nat} (h : OwnM w base m vn vq vd) (hb : w.heap[b]? = some (.cells cs T fr)) (h1 : (9 : TypeId) ≠ T) (h2 : (42 : TypeId) ≠ T) (h3 : (5 : TypeId) ≠ T) : ∀ k ∈ listB vn vq vd, k ≠ b := by
  intro k hk e
  subst e
  unfold listB at hk
  simp only [List.mem_append, Option.mem_toList] at hk
  rcases hk with (hk | hk) | hk
  · exact ownsRow_not h.names hb h1 hk
  · exact ownsRow_not h.qids hb h2 hk
  · exact ownsRow_not h.data hb h3 hk
variable {w0 w : World} {F0 K : List Nat} {r : Nat} {R : RelP} {G : Gh} {L : List OutV}
set_option maxRecDepth 100000 in
set_option maxHeartbeats 8000000 in
theorem send_any {X : List Nat} {b t : Nat} {q : ReqP} {m : MsgP} {vn vq vd vu vx vt : Value} (h : St w0 F0 (X ++ (listB vn vq vd ++ K)) r R R.used G L w) (hr : Ready w r R G X b q m vn vq vd vu vx vt) (hq : R.Takes q) (ht : R.tag = some t)
    (hXn : ∀ k ∈ X, w0.heap.size ≤ k) (hKX : ∀ k ∈ K, k ∉ X) (hL : L.length ≤ 1000) :
    Calls Tryz.prog 83 #[.pointer (some ⟨r, 0, none⟩), .pointer (some ⟨b, 0, none⟩)] w fun e w' => e = .returned (.tuple #[]) ∧ ∃ o : OutV, o.c = 0 ∧ o.m = { m with tag := t } ∧
      St w0 F0 K r (R.put q t) (R.put q t).used (G.req X b (R.made + 1)) (L ++ [o]) w' := by
  obtain ⟨vo, hrel, hout, hF, hK⟩ := h.ex
  have hX : ∀ k ∈ X, k < w.heap.size ∧ k ∉ G.F ∧ k ∉ outB vo L := fun k hk => hK k (by simp [hk])
  have hY : ∀ k ∈ listB vn vq vd, k < w.heap.size ∧ k ∉ G.F ∧ k ∉ outB vo L := fun k hk => hK k (by simp [hk])
  have hKK : ∀ k ∈ K, k < w.heap.size ∧ k ∉ G.F ∧ k ∉ outB vo L := fun k hk => hK k (by simp [hk])
  obtain ⟨t1, t2⟩ := tag_some ht
  have ht64 : t < 65536 := by
    have := hrel.wf.tags.2
    omega
  have hbX := hX b hr.mem
  have d1 : w.cell? ⟨b, 1, none⟩ = some (.int .u16 (m.tag : Int)) := by rw [cell_of_row _ _ _ _ _ _ hr.row]; rfl
  have f1 : w.frozen? ⟨b, 1, none⟩ = false := frozen_of_row _ _ _ _ _ hr.row
  have HT := Lib.hid (tag_any hrel)
  have hmb : Mods [b] w (w.setCell ⟨b, 1, none⟩ (.int .u16 (t : Int))) := (Mods.refl [b] w).setCell (p := ⟨b, 1, none⟩) (Or.inl (by simp)) _
  have row1 : (w.setCell ⟨b, 1, none⟩ (.int .u16 (t : Int))).heap[b]? = some (.cells (reqC { m with tag := t } vn vq vd q.client q.own q.tag q.lost vu vx vt).toArray 115 (0, 0)) := heap_setCell_same _ _ _ _ _ _ hr.row
  have hrel1 := hrel.mods hmb (fun k hk hk' => hbX.2.1 (by simp at hk'; rw [← hk']; exact hk))
  have hout1 := hout.modsX hmb (fun k hk hk' => hbX.2.2 (by simp at hk'; rw [← hk']; exact hk))
  have hli1 := hr.lists.modsX hmb (fun k hk hk' => hr.lists.not hr.row (by decide) (by decide) (by decide) k hk (by simpa using hk'))
  have hu1 := hr.uses.keepT (KeepT.set (i := 1) (v := .int .u16 (t : Int)) hr.row).toKeepC (by decide)
  have hth1 := hr.do_.setB (i := 1) (u := .int .u16 (t : Int)) hr.row (fun k e => hbX.2.1 (by
    rw [(G.req_more X b R.made).rb _ hq.names] at e
    exact e ▸ hr.named k))
  have HMo := Lib.hid (h.mods.trans hmb (fun k hk => Or.inr (by simp at hk; subst hk; exact hXn _ hr.mem)))
  have HSm := Lib.hid hr.small
  have HKd := Lib.hid hr.kind
  have HMe := Lib.hid hr.mem
  have HNm := Lib.hid hr.named
  have HQ := Lib.hid hq
  have HTG := Lib.hid ht
  have HXN := Lib.hid hXn
  have HKX := Lib.hid hKX
  have HFF := Lib.hid hF
  have HX := Lib.hid (fun k hk => (⟨Nat.lt_of_lt_of_le (hX k hk).1 hmb.size, (hX k hk).2⟩ : k < (w.setCell ⟨b, 1, none⟩ (.int .u16 (t : Int))).heap.size ∧ k ∉ G.F ∧ k ∉ outB vo L))
  have HY := Lib.hid (fun k hk => (⟨Nat.lt_of_lt_of_le (hY k hk).1 hmb.size, (hY k hk).2⟩ : k < (w.setCell ⟨b, 1, none⟩ (.int .u16 (t : Int))).heap.size ∧ k ∉ G.F ∧ k ∉ outB vo L))
  have HKK := Lib.hid (fun k hk => (⟨Nat.lt_of_lt_of_le (hKK k hk).1 hmb.size, (hKK k hk).2⟩ : k < (w.setCell ⟨b, 1, none⟩ (.int .u16 (t : Int))).heap.size ∧ k ∉ G.F ∧ k ∉ outB vo L))
  have HSB := Lib.hid h.sub
  have hfew := hq.few
  rw [ht] at HT
  simp only [Option.getD_some, Option.isSome_some] at HT
  clear h hr hq ht hXn hKX hF hK hX hY hKK hmb hrel hout t2
  generalize hw1 : w.setCell ⟨b, 1, none⟩ (.int .u16 (t : Int)) = w1 at *
  obtain ⟨A0, c0, hvu, -⟩ := id hu1
  have c40 : w1.cell? ⟨b, 40, none⟩ = some (.slice A0 q.uses.length c0) := by rw [cell_of_row _ _ _ _ _ _ row1, ← hvu]; rfl
  have HROW := Lib.hid row1
  have HREL1 := Lib.hid hrel1
  have HOUT1 := Lib.hid hout1
  have HLI1 := Lib.hid hli1
  have HU1 := Lib.hid hu1
  have HTH1 := Lib.hid hth1
  rw [hvu] at HU1
  clear row1 hrel1 hout1 hli1 hu1 hth1 hbX
  go_enter Tryz.func83, Tryz.ntmps83
  go_wp2_with fail
  refine HT.out.mono ?_
  rintro e w' ⟨rfl, rfl⟩
  go_wp2_with fail
  clear hw1 d1 f1
  go_loopw [20] (fun i wr => ∃ k : Nat, k ≤ q.uses.length ∧ i = .int .i64 k ∧ IsRel wr r R (fun j => R.used j + (q.uses.take k).count j) G vo ∧ KeepC 148 (X ++ G.F) w1 wr ∧ Mods G.F w1 wr) (fun i _ => q.uses.length - (intOf i).toNat)
  case atStart => exact ⟨0, by omega, rfl, HREL1.out.used_eq (fun _ _ => by simp), KeepC.refl _ _ _, Mods.refl _ _⟩
  case round =>
    obtain ⟨k, hk, rfl, hr, hkc, hm⟩ := hrel
    have HRR := Lib.hid hr
    have HKC := Lib.hid hkc
    have HMR := Lib.hid hm
    rcases Nat.lt_or_ge k q.uses.length with hlt | hge
    · obtain ⟨i, hs⟩ : ∃ i, q.uses[k]? = some i := ⟨_, List.getElem?_eq_getElem hlt⟩
      obtain ⟨l, hl, rfl⟩ := HQ.out.uses i (List.mem_of_getElem? hs)
      obtain ⟨g, rfl, hc⟩ := LRow.at (HU1.out.keepT hkc (by decide)) rfl hs
      change wr.cell? ⟨g, k, none⟩ = some (.pointer (some ⟨G.lb l.id, 0, none⟩)) at hc
      have hu1 := used_le hr.wf l.id
      have hu2 : (q.uses.take k).count l.id ≤ 2 := Nat.le_trans (count_take_le q.uses k l.id) (Nat.le_trans List.count_le_length hfew)
      have hcs := count_take_succ hs l.id
      simp only [if_true] at hcs
      obtain ⟨n, hn⟩ : ∃ n, R.used l.id + (q.uses.take k).count l.id = n := ⟨_, rfl⟩
      have hn9 : n ≤ 1002 := by omega
      have d2 : wr.cell? ⟨G.lb l.id, 2, none⟩ = some (.int .i64 (n : Int)) := by
        rw [link_cell hr hl 2, hn]
        rfl
      have f2 : wr.frozen? ⟨G.lb l.id, 2, none⟩ = false := frozen_of_row _ _ _ _ _ (hr.link l hl).2
      have HS := Lib.hid (hr.setUsed hl (n + 1))
      have HKT := Lib.hid (KeepT.set (F := X ++ G.F) (i := 2) (v := .int .i64 ((n + 1 : Nat) : Int)) (hr.link l hl).2)
      have HLF := Lib.hid (hr.link l hl).1
      have HCS := Lib.hid (fun j => count_take_succ hs j)
      have HN : Hid (n + 1 = R.used l.id + (q.uses.take (k + 1)).count l.id) := Lib.hid (by omega)
      clear hr hkc hm hs hl hcs hn hu1 hu2
      go_wp2_with fail
      refine ⟨⟨k + 1, by omega, by simp, HS.out.1.used_eq (fun p hp => ?_), HKC.out.trans HKT.out.toKeepC, HMR.out.setCell (p := ⟨G.lb l.id, 2, none⟩) (Or.inl HLF.out) _⟩, by simp [intOf]; omega⟩
      by_cases e : p.id = l.id
      · rw [if_pos e, e]
        exact HN.out.symm
      · rw [if_neg e, HCS.out p.id, if_neg e]
        simp
    · obtain rfl : k = q.uses.length := by omega
      clear hr hkc hm
      go_wp2_with fail
      have hrr := (HRR.out.used_eq (U' := (R.put q t).used) (fun l _ => by rw [used_put, List.take_length])).still (Mods.refl [] wr).drew
      have hrow2 := HKC.out.cells b _ _ _ (List.mem_append.2 (Or.inl HMe.out)) (by decide) HROW.out
      have e5 : wr.drew.cell? ⟨r, 5, none⟩ = some (.map (some G.ub)) := hrr.cell 5
      have e1 : wr.drew.cell? ⟨b, 1, none⟩ = some (.int .u16 (t : Int)) := by rw [cell_of_row _ _ _ _ _ _ (show wr.drew.heap[b]? = _ from hrow2)]; rfl
      obtain ⟨w5, hput, hM5, hm5, hs5⟩ := hrr.under.run_put Tryz.underlying78 (by
        have h1 := hrr.wf.reqs_le
        have h2 := hrr.wf.tags.2
        rw [List.length_map]
        unfold maxLen
        omega) t (show t < 65536 from ht64) (by
        intro e he h'
        obtain ⟨p, hp, rfl⟩ := List.mem_map.1 he
        exact (tag_some HTG.out).2 p hp h') b
      change (Instr.mapUpdate 78 (.map (some G.ub)) (.int .u16 (t : Int)) (.pointer (some ⟨b, 0, none⟩))).run Tryz.prog wr.drew = .ok () w5 at hput
      have hrel5 := hrr.put (X := X) (b := b) (q := q) (m := { m with tag := t }) (vn := vn) (vq := vq) (vd := vd) (vu := vu) (vx := vx) (vt := vt) HQ.out HTG.out HKd.out rfl hrow2 (by rw [hvu]; exact HU1.out.keepT (show KeepC 148 _ w1 wr.drew from ⟨HKC.out.size, HKC.out.cells⟩) (by decide)) (HTH1.out.keepT (show KeepC 148 _ w1 wr.drew from ⟨HKC.out.size, HKC.out.cells⟩) (by decide) (by decide) (by decide) (by decide) (by decide) (by decide) (by decide)) HMe.out (fun k hk => ⟨(HX.out k hk).2.1, Nat.lt_of_lt_of_le (HX.out k hk).1 HMR.out.size⟩) HNm.out hm5 hM5
      have hub := HREL1.out.here.2.2.2
      have hm15 : Mods G.F w1 w5 := (HMR.out.drew).trans hm5 (fun k hk => by simp at hk; subst hk; exact Or.inl hub)
      have HREL := Lib.hid (hrel5.still (Mods.refl [] w5).drew)
      have HOUT := Lib.hid (HOUT1.out.modsX hm15.drew (fun k hk hk' => HFF.out k hk' hk))
      have HLS := Lib.hid (HLI1.out.modsX hm15.drew (fun k hk hk' => (HY.out k hk).2.1 hk'))
      have HF : Hid (∀ k ∈ (G.req X b (R.made + 1)).F, k ∉ outB vo L) := Lib.hid (fun k hk => (List.mem_append.1 hk).elim (fun h => (HX.out k h).2.2) (fun h => HFF.out k h))
      have HK : Hid (∀ k ∈ K, k < w5.drew.heap.size ∧ k ∉ (G.req X b (R.made + 1)).F ∧ k ∉ outB vo L) := Lib.hid (fun k hk => ⟨Nat.lt_of_lt_of_le (HKK.out k hk).1 hm15.size, fun h => (List.mem_append.1 h).elim (HKX.out k hk) (HKK.out k hk).2.1, (HKK.out k hk).2.2⟩)
      have HMO : Hid (Mods F0 w0 w5.drew) := Lib.hid ((HMo.out.trans hm15 (fun k hk => HSB.out k hk)).drew)
      have HSU : Hid (∀ k ∈ (G.req X b (R.made + 1)).F, k ∈ F0 ∨ w0.heap.size ≤ k) := Lib.hid (fun k hk => (List.mem_append.1 hk).elim (fun h => Or.inr (HXN.out k h)) (fun h => HSB.out k h))
      have HBF : Hid (b ∈ (G.req X b (R.made + 1)).F) := Lib.hid (List.mem_append.2 (Or.inl HMe.out))
      have hrow5 := hm15.drew.heap HROW.out (HX.out b HMe.out).2.1
      have hrg : w5.drew.rangeAt b 0 (msgC { m with tag := t } vn vq vd) := fun j v hj => by
        have hl : j < 36 := (List.getElem?_eq_some_iff.1 hj).1
        rw [cell_of_row _ _ _ _ _ _ hrow5, Nat.zero_add]
        unfold reqC
        rw [List.getElem?_toArray, List.getElem?_append_left hl]
        exact hj
      have HBR : Hid (b ≠ r) := Lib.hid (fun e => (HX.out b HMe.out).2.1 (by rw [e]; exact HREL1.out.here.1))
      have hls : OwnM w5.drew 0 { m with tag := t } vn vq vd := ⟨HLS.out.names, HLS.out.qids, HLS.out.data⟩
      have HO := Lib.hid (own_any { m with tag := t } HSm.out w5.drew hls.reads hls.plain)
      clear hls hrr hrow2 hM5 hm5 hs5 hrel5 hm15 hrow5 HRR HKC HMR HQ HTG HKd HROW HREL1 HOUT1 HLI1 HU1 HTH1 HX HY HKK HKX HXN HMe HNm HSm HFF HSB HMo c40 hfew t1
      subst hvu
      go_region
      go_wp2_with fail
      obtain ⟨i1, hi, hz0, hz1, hz2⟩ := info_parts info49
      obtain ⟨A, c, rfl, -⟩ := ownsRow_slice HOUT.out.row
      have c6 : w5.drew.cell? ⟨r, 6, none⟩ = some (.slice A L.length c) := HREL.out.cell 6
      clear e5 e1 hput
      refine wp_region_held_drew (S := fun W => W.rangeAt b 0 (msgC { m with tag := t } vn vq vd)) (by kernel_rfl) hrg (fun hHeld => ?_)
      have hS0 := hHeld
      refine wpAnyH_take (i := 0) (v := ?_) rfl (by kernel_rfl) (by kernel_rfl) (by kernel_rfl) (fun _ _ _ h => h) (Or.inl ⟨by rfl, ?_⟩) hHeld ?_
      rotate_left
      · intro w hSw
        first | (go_simp; done) | (go_simp; with_reducible rfl)
      try simp only [Act.put]
      refine wpAnyH_take (i := 1) (v := ?_) rfl (by kernel_rfl) (by kernel_rfl) (by kernel_rfl) (fun _ _ _ h => h) (Or.inl ⟨by rfl, ?_⟩) hHeld ?_
      rotate_left
      · intro w hSw
        first | (go_simp; done) | (go_simp; with_reducible rfl)
      try simp only [Act.put]
      refine wpAnyH_take (i := 2) (v := ?_) rfl (by kernel_rfl) (by kernel_rfl) (by kernel_rfl) (fun _ _ _ h => h) (Or.inl ⟨by rfl, ?_⟩) hHeld ?_
      rotate_left
      · intro w hSw
        first | (go_simp; done) | (go_simp; with_reducible rfl)
      try simp only [Act.put]
      refine wpAnyH_take (i := 3) (v := ?_) rfl (by kernel_rfl) (by kernel_rfl) (by kernel_rfl) (fun _ _ _ h => h) (Or.inl ⟨by rfl, ?_⟩) hHeld ?_
      rotate_left
      · intro w hSw
        first | (go_simp; done) | (go_simp; with_reducible rfl)
      try simp only [Act.put]
      refine wpAnyH_take (i := 5) (v := ?_) rfl (by kernel_rfl) (by kernel_rfl) (by kernel_rfl) (fun _ _ _ h => h) (Or.inl ⟨by rfl, ?_⟩) hHeld ?_
      rotate_left
      · intro w hSw
        first | (go_simp; done) | (go_simp; with_reducible rfl)
      try simp only [Act.put]
      refine wpAnyH_take (i := 6) (v := ?_) rfl (by kernel_rfl) (by kernel_rfl) (by kernel_rfl) (fun _ _ _ h => h) (Or.inl ⟨by rfl, ?_⟩) hHeld ?_
      rotate_left
      · intro w hSw
        first | (go_simp; done) | (go_simp; with_reducible rfl)
      try simp only [Act.put]
      refine wpAnyH_take (i := 7) (v := ?_) rfl (by kernel_rfl) (by kernel_rfl) (by kernel_rfl) (fun _ _ _ h => h) (Or.inl ⟨by rfl, ?_⟩) hHeld ?_
      rotate_left
      · intro w hSw
        first | (go_simp; done) | (go_simp; with_reducible rfl)
      try simp only [Act.put]
      refine wpAnyH_take (i := 8) (v := .agg (msgC { m with tag := t } vn vq vd).toArray) rfl (by kernel_rfl) (by kernel_rfl) (by kernel_rfl) (fun _ _ _ h => h) ?hy hHeld ?hz
      case hy => exact yieldsIf_load_mid rfl 47 _ rfl b 0 rfl (msgC { m with tag := t } vn vq vd) _ (fun _ h => h) Tryz.underlying47 rfl (info47 { m with tag := t } vn vq vd)
      try simp only [Act.put]
      refine wpAnyH_ready (rs := [4, 9]) (by kernel_rfl) (by simp) ?_
      refine AllReadyH.cons rfl (fun K2 hK => ?_) ?_
      · go_simp
        refine hK.out _ _ hS0 (fun hHeld => ?_)
        clear hK K2
        refine wpAnyH_ready (rs := [9]) (by kernel_rfl) (by simp) ?_
        refine AllReadyH.cons rfl (fun K2 hK => ?_) ?_
        · go_simp
          refine HO.out.mono ?_; rintro e w1 ⟨vn', vq', vd', rfl, ho1, hm1⟩
          have HO1 := Lib.hid ho1
          have HM1 := Lib.hid hm1
          have hS1 : w1.rangeAt b 0 (msgC { m with tag := t } vn vq vd) := range_mods hrg hm1 (by simp)
          have c6b : w1.cell? ⟨r, 6, none⟩ = some (.slice A L.length c) := (HREL.out.still hm1).cell 6
          clear ho1 hm1
          refine hK.out _ _ hS1 (fun hHeld => ?_)
          clear hK K2
          refine wpAnyH_ready (rs := [10]) (by kernel_rfl) (by simp) ?_
          refine AllReadyH.cons rfl (fun K2 hK => ?_) ?_
          · refine step_build rfl 49 _ rfl (outC 0 { m with tag := t } vn' vq' vd').toArray (by kernel_rfl) ?_
            try go_simp
            refine hK.out _ _ hS1 (fun hHeld => ?_)
            clear hK K2
            refine wpAnyH_ready (rs := [11]) (by kernel_rfl) (by simp) ?_
            refine AllReadyH.cons rfl (fun K2 hK => ?_) ?_
            · refine step_buildSlice rfl 33 1 _ rfl #[(0, .agg (outC 0 { m with tag := t } vn' vq' vd').toArray)] (by kernel_rfl) _ _ (slice33 0 { m with tag := t } vn' vq' vd' w1) ?_
              try go_simp
              have hmB := (Mods.refl [] w1).alloc (.cells (outC 0 { m with tag := t } vn' vq' vd').toArray 49)
              have hS2 : (w1.alloc (.cells (outC 0 { m with tag := t } vn' vq' vd').toArray 49)).rangeAt b 0 (msgC { m with tag := t } vn vq vd) := range_mods hS1 hmB (by simp)
              have c6c : (w1.alloc (.cells (outC 0 { m with tag := t } vn' vq' vd').toArray 49)).cell? ⟨r, 6, none⟩ = some (.slice A L.length c) := ((HREL.out.still HM1.out).still hmB).cell 6
              refine hK.out _ _ hS2 (fun hHeld => ?_)
              clear hK K2
              refine wpAnyH_ready (rs := [12]) (by kernel_rfl) (by simp) ?_
              refine AllReadyH.cons rfl (fun K2 hK => ?_) ?_
              · have hrel2 := (HREL.out.still HM1.out).still hmB
                have hout2 := (HOUT.out.modsX HM1.out (by simp)).modsX hmB (by simp)
                refine step_app rfl _ _ 33 33 rfl w0.heap.size 49 i1 _ 37 352 Tryz.underlying33 hi hz0 hz1 hz2 rfl (.slice A L.length c) L.length (L.flatMap OutV.cells) rfl hout2.row (.slice (some ⟨w1.heap.size, 0, none⟩) 1 1) 1 (outC 0 { m with tag := t } vn' vq' vd') rfl (src_out 0 { m with tag := t } vn' vq' vd' HO1.out.plain) (by unfold maxLen; omega) (by omega) (by have h1 := HMO.out.size; have h2 := HM1.out.size; simp; omega) ?_
                intro v' w3 hown hgrow hat
                have hm3 : Mods (Value.slice A L.length c).ownBlock.toList (w1.alloc (.cells (outC 0 { m with tag := t } vn' vq' vd').toArray 49)) w3 := (Mods.refl _ _).grown hgrow (fun b hb => Or.inl (by simp [hb]))
                have hrel3 := hrel2.mods hm3 (fun k hk hk' => HF.out k hk (outB_mem.2 (Or.inl (by simpa using hk'))))
                have hS3 : w3.rangeAt b 0 (msgC { m with tag := t } vn vq vd) := range_mods hS2 hm3 (fun hk' => HF.out b HBF.out (outB_mem.2 (Or.inl (by simpa using hk'))))
                have f6 := hrel3.frozen 6
                have c6' := hrel3.cell 6
                simp only [List.getElem?_toArray, List.getElem?_cons_zero, List.getElem?_cons_succ] at c6'
                obtain ⟨A3, c3, rfl⟩ := own_ctor hown
                try go_simp
                refine hK.out _ _ hS3 (fun hHeld => ?_)
                clear hK K2
                refine wpAnyH_take (i := 13) (v := ?_) rfl (by kernel_rfl) (by kernel_rfl) (by kernel_rfl) (fun _ _ _ h => h) (Or.inl ⟨by rfl, ?_⟩) hHeld ?_
                rotate_left
                · intro w hSw
                  first | (go_simp; done) | (go_simp; with_reducible rfl)
                try simp only [Act.put]
                refine wpAnyH_take (i := 14) (v := ?_) rfl (by kernel_rfl) (by kernel_rfl) (by kernel_rfl) (fun _ _ _ h => h) (Or.inl ⟨by rfl, ?_⟩) hHeld ?_
                rotate_left
                · intro w hSw
                  first | (go_simp; done) | (go_simp; with_reducible rfl)
                try simp only [Act.put]
                refine wpAnyH_ready (rs := [15]) (by kernel_rfl) (by simp) ?_
                refine AllReadyH.cons rfl (fun K2 hK => ?_) ?_
                · go_simp
                  have hS4 : (w3.setCell ⟨r, 6, none⟩ (.slice A3 (L.length + 1) c3)).rangeAt b 0 (msgC { m with tag := t } vn vq vd) := range_mods hS3 ((Mods.refl [r] w3).setCell (p := ⟨r, 6, none⟩) (Or.inl (by simp)) _) (by
                    intro hk'
                    simp at hk'
                    exact HBR.out hk')
                  refine hK.out _ _ hS4 (fun hHeld => ?_)
                  clear hK K2
                  refine wpAnyH_done (by kernel_rfl) ?_ _
                  go_end0
                  have hh := St.out (o := ⟨0, { m with tag := t }, vn', vq', vd'⟩) (K := K) hrel2 hout2 HF.out (fun k hk => ⟨Nat.lt_of_lt_of_le (HK.out k hk).1 (Nat.le_trans HM1.out.size hmB.size), (HK.out k hk).2⟩) ((HMO.out.trans HM1.out (by simp)).trans hmB (by simp)) HSU.out (HO1.out.modsX hmB (by simp)) HMO.out.size (Nat.le_trans HM1.out.size hmB.size)
                    (fun k hk => by
                      rcases hk with hk | hk | hk
                      · exact HREL.out.lt k hk
                      · exact (HK.out k hk).1
                      · exact (HOUT.out.lt k hk).2) hown hgrow hat
                  exact ⟨rfl, ⟨0, { m with tag := t }, vn', vq', vd'⟩, rfl, rfl, hh.1⟩
                exact AllReadyH.nil
              exact AllReadyH.nil
            exact AllReadyH.nil
          exact AllReadyH.nil
        exact AllReadyH.nil
      refine AllReadyH.cons rfl (fun K2 hK => ?_) ?_
      · go_simp
        refine HO.out.mono ?_; rintro e w1 ⟨vn', vq', vd', rfl, ho1, hm1⟩
        have HO1 := Lib.hid ho1
        have HM1 := Lib.hid hm1
        have hS1 : w1.rangeAt b 0 (msgC { m with tag := t } vn vq vd) := range_mods hrg hm1 (by simp)
        have c6b : w1.cell? ⟨r, 6, none⟩ = some (.slice A L.length c) := (HREL.out.still hm1).cell 6
        clear ho1 hm1
        refine hK.out _ _ hS1 (fun hHeld => ?_)
        clear hK K2
        refine wpAnyH_ready (rs := [4, 10]) (by kernel_rfl) (by simp) ?_
        refine AllReadyH.cons rfl (fun K2 hK => ?_) ?_
        · go_simp
          refine hK.out _ _ hS1 (fun hHeld => ?_)
          clear hK K2
          refine wpAnyH_ready (rs := [10]) (by kernel_rfl) (by simp) ?_
          refine AllReadyH.cons rfl (fun K2 hK => ?_) ?_
          · refine step_build rfl 49 _ rfl (outC 0 { m with tag := t } vn' vq' vd').toArray (by kernel_rfl) ?_
            try go_simp
            refine hK.out _ _ hS1 (fun hHeld => ?_)
            clear hK K2
            refine wpAnyH_ready (rs := [11]) (by kernel_rfl) (by simp) ?_
            refine AllReadyH.cons rfl (fun K2 hK => ?_) ?_
            · refine step_buildSlice rfl 33 1 _ rfl #[(0, .agg (outC 0 { m with tag := t } vn' vq' vd').toArray)] (by kernel_rfl) _ _ (slice33 0 { m with tag := t } vn' vq' vd' w1) ?_
              try go_simp
              have hmB := (Mods.refl [] w1).alloc (.cells (outC 0 { m with tag := t } vn' vq' vd').toArray 49)
              have hS2 : (w1.alloc (.cells (outC 0 { m with tag := t } vn' vq' vd').toArray 49)).rangeAt b 0 (msgC { m with tag := t } vn vq vd) := range_mods hS1 hmB (by simp)
              have c6c : (w1.alloc (.cells (outC 0 { m with tag := t } vn' vq' vd').toArray 49)).cell? ⟨r, 6, none⟩ = some (.slice A L.length c) := ((HREL.out.still HM1.out).still hmB).cell 6
              refine hK.out _ _ hS2 (fun hHeld => ?_)
              clear hK K2
              refine wpAnyH_ready (rs := [12]) (by kernel_rfl) (by simp) ?_
              refine AllReadyH.cons rfl (fun K2 hK => ?_) ?_
              · have hrel2 := (HREL.out.still HM1.out).still hmB
                have hout2 := (HOUT.out.modsX HM1.out (by simp)).modsX hmB (by simp)
                refine step_app rfl _ _ 33 33 rfl w0.heap.size 49 i1 _ 37 352 Tryz.underlying33 hi hz0 hz1 hz2 rfl (.slice A L.length c) L.length (L.flatMap OutV.cells) rfl hout2.row (.slice (some ⟨w1.heap.size, 0, none⟩) 1 1) 1 (outC 0 { m with tag := t } vn' vq' vd') rfl (src_out 0 { m with tag := t } vn' vq' vd' HO1.out.plain) (by unfold maxLen; omega) (by omega) (by have h1 := HMO.out.size; have h2 := HM1.out.size; simp; omega) ?_
                intro v' w3 hown hgrow hat
                have hm3 : Mods (Value.slice A L.length c).ownBlock.toList (w1.alloc (.cells (outC 0 { m with tag := t } vn' vq' vd').toArray 49)) w3 := (Mods.refl _ _).grown hgrow (fun b hb => Or.inl (by simp [hb]))
                have hrel3 := hrel2.mods hm3 (fun k hk hk' => HF.out k hk (outB_mem.2 (Or.inl (by simpa using hk'))))
                have hS3 : w3.rangeAt b 0 (msgC { m with tag := t } vn vq vd) := range_mods hS2 hm3 (fun hk' => HF.out b HBF.out (outB_mem.2 (Or.inl (by simpa using hk'))))
                have f6 := hrel3.frozen 6
                have c6' := hrel3.cell 6
                simp only [List.getElem?_toArray, List.getElem?_cons_zero, List.getElem?_cons_succ] at c6'
                obtain ⟨A3, c3, rfl⟩ := own_ctor hown
                try go_simp
                refine hK.out _ _ hS3 (fun hHeld => ?_)
                clear hK K2
                refine wpAnyH_take (i := 13) (v := ?_) rfl (by kernel_rfl) (by kernel_rfl) (by kernel_rfl) (fun _ _ _ h => h) (Or.inl ⟨by rfl, ?_⟩) hHeld ?_
                rotate_left
                · intro w hSw
                  first | (go_simp; done) | (go_simp; with_reducible rfl)
                try simp only [Act.put]
                refine wpAnyH_take (i := 14) (v := ?_) rfl (by kernel_rfl) (by kernel_rfl) (by kernel_rfl) (fun _ _ _ h => h) (Or.inl ⟨by rfl, ?_⟩) hHeld ?_
                rotate_left
                · intro w hSw
                  first | (go_simp; done) | (go_simp; with_reducible rfl)
                try simp only [Act.put]
                refine wpAnyH_ready (rs := [15]) (by kernel_rfl) (by simp) ?_
                refine AllReadyH.cons rfl (fun K2 hK => ?_) ?_
                · go_simp
                  have hS4 : (w3.setCell ⟨r, 6, none⟩ (.slice A3 (L.length + 1) c3)).rangeAt b 0 (msgC { m with tag := t } vn vq vd) := range_mods hS3 ((Mods.refl [r] w3).setCell (p := ⟨r, 6, none⟩) (Or.inl (by simp)) _) (by
                    intro hk'
                    simp at hk'
                    exact HBR.out hk')
                  refine hK.out _ _ hS4 (fun hHeld => ?_)
                  clear hK K2
                  refine wpAnyH_done (by kernel_rfl) ?_ _
                  go_end0
                  have hh := St.out (o := ⟨0, { m with tag := t }, vn', vq', vd'⟩) (K := K) hrel2 hout2 HF.out (fun k hk => ⟨Nat.lt_of_lt_of_le (HK.out k hk).1 (Nat.le_trans HM1.out.size hmB.size), (HK.out k hk).2⟩) ((HMO.out.trans HM1.out (by simp)).trans hmB (by simp)) HSU.out (HO1.out.modsX hmB (by simp)) HMO.out.size (Nat.le_trans HM1.out.size hmB.size)
                    (fun k hk => by
                      rcases hk with hk | hk | hk
                      · exact HREL.out.lt k hk
                      · exact (HK.out k hk).1
                      · exact (HOUT.out.lt k hk).2) hown hgrow hat
                  exact ⟨rfl, ⟨0, { m with tag := t }, vn', vq', vd'⟩, rfl, rfl, hh.1⟩
                exact AllReadyH.nil
              exact AllReadyH.nil
            exact AllReadyH.nil
          exact AllReadyH.nil
        refine AllReadyH.cons rfl (fun K2 hK => ?_) ?_
        · refine step_build rfl 49 _ rfl (outC 0 { m with tag := t } vn' vq' vd').toArray (by kernel_rfl) ?_
          try go_simp
          refine hK.out _ _ hS1 (fun hHeld => ?_)
          clear hK K2
          refine wpAnyH_ready (rs := [4, 11]) (by kernel_rfl) (by simp) ?_
          refine AllReadyH.cons rfl (fun K2 hK => ?_) ?_
          · go_simp
            refine hK.out _ _ hS1 (fun hHeld => ?_)
            clear hK K2
            refine wpAnyH_ready (rs := [11]) (by kernel_rfl) (by simp) ?_
            refine AllReadyH.cons rfl (fun K2 hK => ?_) ?_
            · refine step_buildSlice rfl 33 1 _ rfl #[(0, .agg (outC 0 { m with tag := t } vn' vq' vd').toArray)] (by kernel_rfl) _ _ (slice33 0 { m with tag := t } vn' vq' vd' w1) ?_
              try go_simp
              have hmB := (Mods.refl [] w1).alloc (.cells (outC 0 { m with tag := t } vn' vq' vd').toArray 49)
              have hS2 : (w1.alloc (.cells (outC 0 { m with tag := t } vn' vq' vd').toArray 49)).rangeAt b 0 (msgC { m with tag := t } vn vq vd) := range_mods hS1 hmB (by simp)
              have c6c : (w1.alloc (.cells (outC 0 { m with tag := t } vn' vq' vd').toArray 49)).cell? ⟨r, 6, none⟩ = some (.slice A L.length c) := ((HREL.out.still HM1.out).still hmB).cell 6
              refine hK.out _ _ hS2 (fun hHeld => ?_)
              clear hK K2
              refine wpAnyH_ready (rs := [12]) (by kernel_rfl) (by simp) ?_
              refine AllReadyH.cons rfl (fun K2 hK => ?_) ?_
              · have hrel2 := (HREL.out.still HM1.out).still hmB
                have hout2 := (HOUT.out.modsX HM1.out (by simp)).modsX hmB (by simp)
                refine step_app rfl _ _ 33 33 rfl w0.heap.size 49 i1 _ 37 352 Tryz.underlying33 hi hz0 hz1 hz2 rfl (.slice A L.length c) L.length (L.flatMap OutV.cells) rfl hout2.row (.slice (some ⟨w1.heap.size, 0, none⟩) 1 1) 1 (outC 0 { m with tag := t } vn' vq' vd') rfl (src_out 0 { m with tag := t } vn' vq' vd' HO1.out.plain) (by unfold maxLen; omega) (by omega) (by have h1 := HMO.out.size; have h2 := HM1.out.size; simp; omega) ?_
                intro v' w3 hown hgrow hat
                have hm3 : Mods (Value.slice A L.length c).ownBlock.toList (w1.alloc (.cells (outC 0 { m with tag := t } vn' vq' vd').toArray 49)) w3 := (Mods.refl _ _).grown hgrow (fun b hb => Or.inl (by simp [hb]))
                have hrel3 := hrel2.mods hm3 (fun k hk hk' => HF.out k hk (outB_mem.2 (Or.inl (by simpa using hk'))))
                have hS3 : w3.rangeAt b 0 (msgC { m with tag := t } vn vq vd) := range_mods hS2 hm3 (fun hk' => HF.out b HBF.out (outB_mem.2 (Or.inl (by simpa using hk'))))
                have f6 := hrel3.frozen 6
                have c6' := hrel3.cell 6
                simp only [List.getElem?_toArray, List.getElem?_cons_zero, List.getElem?_cons_succ] at c6'
                obtain ⟨A3, c3, rfl⟩ := own_ctor hown
                try go_simp
                refine hK.out _ _ hS3 (fun hHeld => ?_)
                clear hK K2
                refine wpAnyH_take (i := 13) (v := ?_) rfl (by kernel_rfl) (by kernel_rfl) (by kernel_rfl) (fun _ _ _ h => h) (Or.inl ⟨by rfl, ?_⟩) hHeld ?_
                rotate_left
                · intro w hSw
                  first | (go_simp; done) | (go_simp; with_reducible rfl)
                try simp only [Act.put]
                refine wpAnyH_take (i := 14) (v := ?_) rfl (by kernel_rfl) (by kernel_rfl) (by kernel_rfl) (fun _ _ _ h => h) (Or.inl ⟨by rfl, ?_⟩) hHeld ?_
                rotate_left
                · intro w hSw
                  first | (go_simp; done) | (go_simp; with_reducible rfl)
                try simp only [Act.put]
                refine wpAnyH_ready (rs := [15]) (by kernel_rfl) (by simp) ?_
                refine AllReadyH.cons rfl (fun K2 hK => ?_) ?_
                · go_simp
                  have hS4 : (w3.setCell ⟨r, 6, none⟩ (.slice A3 (L.length + 1) c3)).rangeAt b 0 (msgC { m with tag := t } vn vq vd) := range_mods hS3 ((Mods.refl [r] w3).setCell (p := ⟨r, 6, none⟩) (Or.inl (by simp)) _) (by
                    intro hk'
                    simp at hk'
                    exact HBR.out hk')
                  refine hK.out _ _ hS4 (fun hHeld => ?_)
                  clear hK K2
                  refine wpAnyH_done (by kernel_rfl) ?_ _
                  go_end0
                  have hh := St.out (o := ⟨0, { m with tag := t }, vn', vq', vd'⟩) (K := K) hrel2 hout2 HF.out (fun k hk => ⟨Nat.lt_of_lt_of_le (HK.out k hk).1 (Nat.le_trans HM1.out.size hmB.size), (HK.out k hk).2⟩) ((HMO.out.trans HM1.out (by simp)).trans hmB (by simp)) HSU.out (HO1.out.modsX hmB (by simp)) HMO.out.size (Nat.le_trans HM1.out.size hmB.size)
                    (fun k hk => by
                      rcases hk with hk | hk | hk
                      · exact HREL.out.lt k hk
                      · exact (HK.out k hk).1
                      · exact (HOUT.out.lt k hk).2) hown hgrow hat
                  exact ⟨rfl, ⟨0, { m with tag := t }, vn', vq', vd'⟩, rfl, rfl, hh.1⟩
                exact AllReadyH.nil
              exact AllReadyH.nil
            exact AllReadyH.nil
          refine AllReadyH.cons rfl (fun K2 hK => ?_) ?_
          · refine step_buildSlice rfl 33 1 _ rfl #[(0, .agg (outC 0 { m with tag := t } vn' vq' vd').toArray)] (by kernel_rfl) _ _ (slice33 0 { m with tag := t } vn' vq' vd' w1) ?_
            try go_simp
            have hmB := (Mods.refl [] w1).alloc (.cells (outC 0 { m with tag := t } vn' vq' vd').toArray 49)
            have hS2 : (w1.alloc (.cells (outC 0 { m with tag := t } vn' vq' vd').toArray 49)).rangeAt b 0 (msgC { m with tag := t } vn vq vd) := range_mods hS1 hmB (by simp)
            have c6c : (w1.alloc (.cells (outC 0 { m with tag := t } vn' vq' vd').toArray 49)).cell? ⟨r, 6, none⟩ = some (.slice A L.length c) := ((HREL.out.still HM1.out).still hmB).cell 6
            refine hK.out _ _ hS2 (fun hHeld => ?_)
            clear hK K2
            refine wpAnyH_ready (rs := [4]) (by kernel_rfl) (by simp) ?_
            refine AllReadyH.cons rfl (fun K2 hK => ?_) ?_
            · go_simp
              refine hK.out _ _ hS2 (fun hHeld => ?_)
              clear hK K2
              refine wpAnyH_ready (rs := [12]) (by kernel_rfl) (by simp) ?_
              refine AllReadyH.cons rfl (fun K2 hK => ?_) ?_
              · have hrel2 := (HREL.out.still HM1.out).still hmB
                have hout2 := (HOUT.out.modsX HM1.out (by simp)).modsX hmB (by simp)
                refine step_app rfl _ _ 33 33 rfl w0.heap.size 49 i1 _ 37 352 Tryz.underlying33 hi hz0 hz1 hz2 rfl (.slice A L.length c) L.length (L.flatMap OutV.cells) rfl hout2.row (.slice (some ⟨w1.heap.size, 0, none⟩) 1 1) 1 (outC 0 { m with tag := t } vn' vq' vd') rfl (src_out 0 { m with tag := t } vn' vq' vd' HO1.out.plain) (by unfold maxLen; omega) (by omega) (by have h1 := HMO.out.size; have h2 := HM1.out.size; simp; omega) ?_
                intro v' w3 hown hgrow hat
                have hm3 : Mods (Value.slice A L.length c).ownBlock.toList (w1.alloc (.cells (outC 0 { m with tag := t } vn' vq' vd').toArray 49)) w3 := (Mods.refl _ _).grown hgrow (fun b hb => Or.inl (by simp [hb]))
                have hrel3 := hrel2.mods hm3 (fun k hk hk' => HF.out k hk (outB_mem.2 (Or.inl (by simpa using hk'))))
                have hS3 : w3.rangeAt b 0 (msgC { m with tag := t } vn vq vd) := range_mods hS2 hm3 (fun hk' => HF.out b HBF.out (outB_mem.2 (Or.inl (by simpa using hk'))))
                have f6 := hrel3.frozen 6
                have c6' := hrel3.cell 6
                simp only [List.getElem?_toArray, List.getElem?_cons_zero, List.getElem?_cons_succ] at c6'
                obtain ⟨A3, c3, rfl⟩ := own_ctor hown
                try go_simp
                refine hK.out _ _ hS3 (fun hHeld => ?_)
                clear hK K2
                refine wpAnyH_take (i := 13) (v := ?_) rfl (by kernel_rfl) (by kernel_rfl) (by kernel_rfl) (fun _ _ _ h => h) (Or.inl ⟨by rfl, ?_⟩) hHeld ?_
                rotate_left
                · intro w hSw
                  first | (go_simp; done) | (go_simp; with_reducible rfl)
                try simp only [Act.put]
                refine wpAnyH_take (i := 14) (v := ?_) rfl (by kernel_rfl) (by kernel_rfl) (by kernel_rfl) (fun _ _ _ h => h) (Or.inl ⟨by rfl, ?_⟩) hHeld ?_
                rotate_left
                · intro w hSw
                  first | (go_simp; done) | (go_simp; with_reducible rfl)
                try simp only [Act.put]
                refine wpAnyH_ready (rs := [15]) (by kernel_rfl) (by simp) ?_
                refine AllReadyH.cons rfl (fun K2 hK => ?_) ?_
                · go_simp
                  have hS4 : (w3.setCell ⟨r, 6, none⟩ (.slice A3 (L.length + 1) c3)).rangeAt b 0 (msgC { m with tag := t } vn vq vd) := range_mods hS3 ((Mods.refl [r] w3).setCell (p := ⟨r, 6, none⟩) (Or.inl (by simp)) _) (by
                    intro hk'
                    simp at hk'
                    exact HBR.out hk')
                  refine hK.out _ _ hS4 (fun hHeld => ?_)
                  clear hK K2
                  refine wpAnyH_done (by kernel_rfl) ?_ _
                  go_end0
                  have hh := St.out (o := ⟨0, { m with tag := t }, vn', vq', vd'⟩) (K := K) hrel2 hout2 HF.out (fun k hk => ⟨Nat.lt_of_lt_of_le (HK.out k hk).1 (Nat.le_trans HM1.out.size hmB.size), (HK.out k hk).2⟩) ((HMO.out.trans HM1.out (by simp)).trans hmB (by simp)) HSU.out (HO1.out.modsX hmB (by simp)) HMO.out.size (Nat.le_trans HM1.out.size hmB.size)
                    (fun k hk => by
                      rcases hk with hk | hk | hk
                      · exact HREL.out.lt k hk
                      · exact (HK.out k hk).1
                      · exact (HOUT.out.lt k hk).2) hown hgrow hat
                  exact ⟨rfl, ⟨0, { m with tag := t }, vn', vq', vd'⟩, rfl, rfl, hh.1⟩
                exact AllReadyH.nil
              exact AllReadyH.nil
            exact AllReadyH.nil
          exact AllReadyH.nil
        exact AllReadyH.nil
      exact AllReadyH.nil
end
end Go.Proofs.YtlgoeipgmjcboaaGreatDoor
