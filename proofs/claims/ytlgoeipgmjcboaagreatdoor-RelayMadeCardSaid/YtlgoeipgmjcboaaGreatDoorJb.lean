/- The relay's looks: client, tag, of, Fids. | The relay's looks at its links: Fids, least, real. -/
import Derived.Test.YtlgoeipgmjcboaaGreatDoorIr
namespace Go.Proofs.YtlgoeipgmjcboaaGreatDoor
open Go.RowKit Me

section
variable {w : World} {r : Nat} {R : RelP} {U : Nat → Nat} {G : Gh} {vo : Value}
theorem client_out (h : IsRel w r R U G vo) (n : Int) (hn : n < 1 ∨ (R.clients.length : Int) < n) : Calls Tryz.prog 27 #[.pointer (some ⟨r, 0, none⟩), .int .i64 n] w fun e w' => e = .returned (.pointer none) ∧ w' = w := by
  have c3 : w.cell? ⟨r, 3, none⟩ = some (.slice (some ⟨G.gc, 0, none⟩) R.clients.length G.cc) := h.cell 3
  clear h
  generalize R.clients.length = N at *
  go_enter Tryz.func27, Tryz.ntmps27
  by_cases h1 : n < 1
  · have hd : decide (n < 1) = true := by simpa using h1
    go_wp2_with fail
    go_ret
    exact ⟨rfl, rfl⟩
  · have hd : decide (n < 1) = false := by simpa using h1
    have hd2 : decide ((N : Int) < n) = true := by simpa using (by omega : (N : Int) < n)
    go_wp2_with fail
    go_ret
    exact ⟨rfl, rfl⟩
theorem client_in (h : IsRel w r R U G vo) (k : Nat) (hk : k < R.clients.length) : Calls Tryz.prog 27 #[.pointer (some ⟨r, 0, none⟩), .int .i64 ((k + 1 : Nat) : Int)] w fun e w' => e = .returned (.pointer (some ⟨G.cb k, 0, none⟩)) ∧ w' = w := by
  have c3 : w.cell? ⟨r, 3, none⟩ = some (.slice (some ⟨G.gc, 0, none⟩) R.clients.length G.cc) := h.cell 3
  obtain ⟨-, -, cur, hc, hcur⟩ := h.row
  have d : w.cell? ⟨G.gc, k, none⟩ = some (.pointer (some ⟨G.cb k, 0, none⟩)) := by
    rw [cell_of_row _ _ _ _ _ _ hc]
    exact hcur k hk
  have hm := h.wf.many.2
  clear h hc hcur
  generalize R.clients.length = N at *
  have hd : decide (((k + 1 : Nat) : Int) < 1) = false := by simpa using (by omega : ¬ ((k + 1 : Nat) : Int) < 1)
  have hd2 : decide ((N : Int) < ((k + 1 : Nat) : Int)) = false := by simpa using (by omega : ¬ (N : Int) < ((k + 1 : Nat) : Int))
  go_enter Tryz.func27, Tryz.ntmps27
  go_wp2_with fail
  go_ret
  exact ⟨rfl, rfl⟩
theorem tag_free {R : RelP} {k : Nat} (hk : k < R.tags) (hf : ∀ q ∈ R.reqs, q.num ≠ k) (hb : ∀ j, j < k → ∃ q ∈ R.reqs, q.num = j) : R.tag = some k := by
  unfold RelP.tag
  rw [List.find?_range_eq_some]
  refine ⟨by simpa [List.all_eq_true] using hf, by simpa using hk, fun j hj => ?_⟩
  obtain ⟨q, hq, e⟩ := hb j hj
  simp only [Bool.not_eq_true', List.all_eq_false]
  exact ⟨q, hq, by simp [e]⟩
theorem tag_none {R : RelP} (hb : ∀ j, j < R.tags → ∃ q ∈ R.reqs, q.num = j) : R.tag = none := by
  unfold RelP.tag
  rw [List.find?_eq_none]
  intro j hj
  obtain ⟨q, hq, e⟩ := hb j (by simpa using hj)
  simp only [Bool.not_eq_true, List.all_eq_false]
  exact ⟨q, hq, by simp [e]⟩
theorem tag_any (h : IsRel w r R U G vo) : Calls Tryz.prog 58 #[.pointer (some ⟨r, 0, none⟩)] w fun e w' => e = .returned (.tuple #[.int .u16 ((R.tag.getD 0 : Nat) : Int), .bool R.tag.isSome]) ∧ w' = w := by
  have c2 : w.cell? ⟨r, 2, none⟩ = some (.int .i64 (R.tags : Int)) := h.cell 2
  have c5 : w.cell? ⟨r, 5, none⟩ = some (.map (some G.ub)) := h.cell 5
  have HU := Lib.hid h.under
  have ht := h.wf.tags.2
  clear h
  go_enter Tryz.func58, Tryz.ntmps58
  go_wp2_with fail
  go_loopw [9] (fun i wr => ∃ k : Nat, k ≤ R.tags ∧ i = .int .i64 k ∧ wr = w ∧ ∀ j, j < k → ∃ q ∈ R.reqs, q.num = j) (fun i _ => R.tags - (intOf i).toNat)
  case atStart => exact ⟨0, by omega, rfl, rfl, fun j hj => by omega⟩
  case round =>
    obtain ⟨k, hk, rfl, rfl, hb⟩ := hrel
    have HB := Lib.hid hb
    clear hb
    rcases Nat.lt_or_ge k R.tags with hlt | hge
    · have hlk := HU.out.look Tryz.underlying78 (zero109 wr) k (by show k < 65536; omega)
      change (Instr.lookup 78 (.map (some G.ub)) (.int .u16 (k : Int)) false).run Tryz.prog wr = _ at hlk
      cases e : Me.look (R.reqs.map fun q => (q.num, G.rb q.id)) k with
      | none =>
        have HT : Hid (R.tag = some k) := Lib.hid (tag_free hlt (fun q hq => by simpa using look_none e (q.num, G.rb q.id) (List.mem_map.2 ⟨q, hq, rfl⟩)) HB.out)
        rw [e] at hlk
        simp only [ptV] at hlk
        go_wp2_with fail
        go_ret2
        exact ⟨by rw [HT.out]; rfl, rfl⟩
      | some c =>
        rw [e] at hlk
        simp only [ptV] at hlk
        have HE : Hid (∃ q ∈ R.reqs, q.num = k) := Lib.hid (by
          obtain ⟨q, hq, e'⟩ := List.mem_map.1 (look_some e)
          simp only [Prod.mk.injEq] at e'
          exact ⟨q, hq, e'.1⟩)
        go_wp2_with fail
        refine ⟨⟨k + 1, by omega, by simp, trivial, fun j hj => ?_⟩, by simp [intOf]; omega⟩
        by_cases ej : j = k
        · rw [ej]
          exact HE.out
        · exact HB.out j (by omega)
    · obtain rfl : k = R.tags := by omega
      have HT : Hid (R.tag = none) := Lib.hid (tag_none HB.out)
      go_wp2_with fail
      go_ret2
      exact ⟨by rw [HT.out]; rfl, rfl⟩
theorem find_unique {α : Type} {p : α → Bool} {P : α → α → Prop} : ∀ {L : List α} {x : α}, L.Pairwise P → x ∈ L → p x = true → (∀ y ∈ L, ∀ z ∈ L, p y = true → p z = true → ¬ P y z) → L.find? p = some x
  | [], _, _, h, _, _ => by cases h
  | y :: L, x, hP, hx, hp, hn => by
    rw [List.pairwise_cons] at hP
    by_cases hy : p y = true
    · rw [List.find?_cons_of_pos hy]
      rcases List.mem_cons.1 hx with rfl | hx
      · rfl
      · exact absurd (hP.1 x hx) (hn y (by simp) x (List.mem_cons_of_mem _ hx) hy hp)
    · rw [List.find?_cons_of_neg hy]
      rcases List.mem_cons.1 hx with rfl | hx
      · exact absurd hp hy
      · exact find_unique hP.2 hx hp (fun a ha b hb => hn a (List.mem_cons_of_mem _ ha) b (List.mem_cons_of_mem _ hb))
theorem em_pair (hw : R.Wf) {q p : ReqP} (hq : q ∈ R.reqs) (hp : p ∈ R.reqs) (h : p.num = q.num) : p = q := by
  have h1 := find_unique (p := fun x : ReqP => x.num == q.num) hw.reqs hq (by simp) (fun y _ z _ hy hz hP => hP.2.1 (by simp at hy hz; rw [hy, hz]))
  have h2 := find_unique (p := fun x : ReqP => x.num == q.num) hw.reqs hp (by simpa using h) (fun y _ z _ hy hz hP => hP.2.1 (by simp at hy hz; rw [hy, hz]))
  rw [h1] at h2
  exact (Option.some.inj h2).symm
def isIt (n tag : Nat) (q : ReqP) : Bool := q.client == n && !q.own && q.tag == tag
theorem under_is (hw : R.Wf) {q : ReqP} (hq : q ∈ R.reqs) {n tag : Nat} (h : isIt n tag q = true) : R.under n tag = some q := by
  refine find_unique hw.reqs hq h (fun y _ z _ hy hz hP => hP.2.2 ?_)
  simp only [Bool.and_eq_true, beq_iff_eq, Bool.not_eq_true'] at hy hz
  exact ⟨hy.1.2, hz.1.2, by rw [hy.1.1, hz.1.1], by rw [hy.2, hz.2]⟩
theorem under_not {n tag : Nat} (h : ∀ q ∈ R.reqs, isIt n tag q = false) : R.under n tag = none := by
  unfold RelP.under
  rw [List.find?_eq_none]
  intro q hq
  have := h q hq
  unfold isIt at this
  rw [this]
  simp
def reqM (R : RelP) (G : Gh) : List (Nat × Nat) := R.reqs.map fun q => (q.num, G.rb q.id)
theorem of_any (h : IsRel w r R U G vo) (n tag : Nat) : Calls Tryz.prog 59 #[.pointer (some ⟨r, 0, none⟩), .int .i64 (n : Int), .int .u16 (tag : Int)] w fun e w' => e = .returned (.pointer ((R.under n tag).map fun q => ⟨G.rb q.id, 0, none⟩)) ∧ Mods [] w w' := by
  have c5 : w.cell? ⟨r, 5, none⟩ = some (.map (some G.ub)) := h.cell 5
  have HU : Hid (PMap KU w G.ub (reqM R G)) := Lib.hid h.under
  have H := Lib.hid h
  have HL := Lib.hid (h.lt _ h.here.2.2.2)
  clear h
  go_enter Tryz.func59, Tryz.ntmps59
  go_wp2_with (at_range; refine wpList_range_pm _ rfl _ 78 rfl 109 Tryz.underlying78 G.ub (reqM R G) rfl HU.out ?_; intro wI hR hmI hsI; have HR := Lib.hid hR; have HMI := Lib.hid hmI; clear hR hmI hsI; go_frame)
  generalize hit : w.heap.size = it at *
  go_loopw [8] (fun _ wr => ∃ T, PRange KU wr G.ub it (reqM R G) T ∧ Mods [] w wr ∧ ∀ q ∈ R.reqs, (q.num, G.rb q.id) ∉ T → isIt n tag q = false) (fun _ wr => wr.rangeLeft G.ub it)
  case atStart => exact ⟨_, HR.out, HMI.out, fun q hq hn => absurd (List.mem_map.2 ⟨q, hq, rfl⟩) hn⟩
  case round =>
    obtain ⟨T, hT, hm, hno⟩ := hrel
    have HTT := Lib.hid hT
    have HM := Lib.hid hm
    have HNO := Lib.hid hno
    clear hT hm hno
    go_wp2_with (at_next; refine wpList_next_pm _ rfl _ rfl G.ub it (reqM R G) _ rfl HTT.out ?_ ?_)
    · intro hT0
      have HE : Hid (R.under n tag = none) := Lib.hid (under_not (fun q hq => HNO.out q hq (by rw [hT0]; simp)))
      go_wp2_with fail
      go_ret
      exact ⟨by rw [HE.out]; rfl, HM.out⟩
    · intro x c w2 hx hxT hxM hR2 hm2 hs2 hl2 hen
      obtain ⟨q, hq, e⟩ := List.mem_map.1 hxM
      simp only [Prod.mk.injEq] at e
      obtain ⟨rfl, rfl⟩ := e
      have hmm := HM.out.trans hm2 (fun b hb => Or.inr (by simp at hb; omega))
      have HMM := Lib.hid hmm
      obtain ⟨-, cs, vu, vt, g0, -, -, -, g36, g37, g38, -⟩ := (H.out.still hmm).req q hq
      have c36 : w2.cell? ⟨G.rb q.id, 36, none⟩ = some (.int .i64 (q.client : Int)) := by rw [cell_of_row _ _ _ _ _ _ g0]; exact g36
      have c37 : w2.cell? ⟨G.rb q.id, 37, none⟩ = some (.bool q.own) := by rw [cell_of_row _ _ _ _ _ _ g0]; exact g37
      have c38 : w2.cell? ⟨G.rb q.id, 38, none⟩ = some (.int .u16 (q.tag : Int)) := by rw [cell_of_row _ _ _ _ _ _ g0]; exact g38
      have HQ := Lib.hid hq
      have HR2 := Lib.hid hR2
      have HL2 := Lib.hid hl2
      clear g0 g36 g37 g38 hmm hm2 hs2 hxM hxT hq hR2 hl2
      have HNX : Hid (isIt n tag q = false → ∃ T', PRange KU w2 G.ub it (reqM R G) T' ∧ Mods [] w w2 ∧ ∀ p ∈ R.reqs, (p.num, G.rb p.id) ∉ T' → isIt n tag p = false) := Lib.hid (fun hf => ⟨_, HR2.out, HMM.out, fun p hp hn => by
        by_cases ep : p.num = q.num
        · rcases em_pair H.out.wf HQ.out hp ep with rfl
          exact hf
        · exact HNO.out p hp (fun hm => hn (List.mem_filter.2 ⟨hm, by simpa using ep⟩))⟩)
      by_cases e1 : q.client = n
      · have b1 : ((q.client : Int) == (n : Int)) = true := by simpa using (by omega : (q.client : Int) = n)
        cases e2 : q.own
        · rw [e2] at c37
          by_cases e3 : q.tag = tag
          · have b3 : ((q.tag : Int) == (tag : Int)) = true := by simpa using (by omega : (q.tag : Int) = tag)
            have HE : Hid (R.under n tag = some q) := Lib.hid (under_is H.out.wf HQ.out (by unfold isIt; rw [e1, e2, e3]; simp))
            go_wp2_with fail
            go_ret
            exact ⟨by rw [HE.out]; rfl, HMM.out⟩
          · have b3 : ((q.tag : Int) == (tag : Int)) = false := by simpa using (by omega : ¬ (q.tag : Int) = tag)
            have HI := Lib.hid (HNX.out (by unfold isIt; simp [e3]))
            go_wp2_with fail
            exact ⟨HI.out, HL2.out⟩
        · rw [e2] at c37
          have HI := Lib.hid (HNX.out (by unfold isIt; simp [e2]))
          go_wp2_with fail
          exact ⟨HI.out, HL2.out⟩
      · have b1 : ((q.client : Int) == (n : Int)) = false := by simpa using (by omega : ¬ (q.client : Int) = n)
        have HI := Lib.hid (HNX.out (by unfold isIt; simp [e1]))
        go_wp2_with fail
        exact ⟨HI.out, HL2.out⟩
end
end Go.Proofs.YtlgoeipgmjcboaaGreatDoor
namespace Go.Proofs.YtlgoeipgmjcboaaGreatDoor
open Go.RowKit Me

section
variable {w : World} {r : Nat} {R : RelP} {U : Nat → Nat} {G : Gh} {vo : Value}
def linkM (R : RelP) (G : Gh) : List ((Int × Nat) × Nat) := R.links.map fun l => (((l.client : Int), l.fid), G.lb l.id)
theorem countP_strike {α : Type} [DecidableEq α] (f : α × Nat → Bool) {T : List (α × Nat)} (hn : T.Pairwise fun e f => e.1 ≠ f.1) {x : α} {c : Nat} (h : (x, c) ∈ T) :
    (T.filter fun e => decide (e.1 ≠ x)).countP f + (if f (x, c) then 1 else 0) = T.countP f := by
  induction T with
  | nil => cases h
  | cons e T ih =>
    rw [List.pairwise_cons] at hn
    rcases List.mem_cons.1 h with rfl | h
    · rw [List.filter_cons_of_neg (by simp), List.countP_cons]
      congr 1
      rw [List.filter_eq_self.2]
      intro g hg
      simpa using (hn.1 g hg).symm
    · rw [List.filter_cons_of_pos (by simpa using hn.1 _ h), List.countP_cons, List.countP_cons, ← ih hn.2 h]
      omega
theorem less_one : ∀ (L : List Nat) (N : Nat), L.Pairwise (· ≠ ·) → L.length ≤ (L.filter fun x => decide (x ≠ N)).length + 1
  | [], _, _ => by simp
  | x :: L, N, h => by
    rw [List.pairwise_cons] at h
    by_cases e : x = N
    · subst e
      rw [List.filter_cons_of_neg (by simp), List.filter_eq_self.2 (fun y hy => by simpa using (h.1 y hy).symm), List.length_cons]
      exact Nat.le_refl _
    · rw [List.filter_cons_of_pos (by simpa using e), List.length_cons, List.length_cons]
      have := less_one L N h.2
      omega
theorem pigeon : ∀ (N : Nat) (L : List Nat), L.Pairwise (· ≠ ·) → (∀ x ∈ L, x < N) → L.length ≤ N
  | 0, L, _, h => by
    cases L with
    | nil => simp
    | cons x L => exact absurd (h x (by simp)) (Nat.not_lt_zero _)
  | N + 1, L, hp, h => by
    have h1 := less_one L N hp
    have h2 := pigeon N (L.filter fun x => decide (x ≠ N)) (hp.filter _) (fun x hx => by
      have h3 := List.mem_filter.1 hx
      have h4 := h x h3.1
      have h5 : x ≠ N := by simpa using h3.2
      omega)
    omega
theorem RelP.Wf.links_le (h : R.Wf) : R.links.length ≤ R.fids := by
  have := pigeon R.fids (R.links.map (·.num)) (by
    rw [List.pairwise_map]
    exact h.links.imp (fun h => h.2.1)) (fun x hx => by
      obtain ⟨l, hl, rfl⟩ := List.mem_map.1 hx
      exact (h.link l hl).2.2.2.2.2)
  simpa using this
theorem RelP.Wf.reqs_le (h : R.Wf) : R.reqs.length ≤ R.tags := by
  have := pigeon R.tags (R.reqs.map (·.num)) (by
    rw [List.pairwise_map]
    exact h.reqs.imp (fun h => h.2.1)) (fun x hx => by
      obtain ⟨q, hq, rfl⟩ := List.mem_map.1 hx
      exact (h.req q hq).2.2.1)
  simpa using this
theorem fids_any (h : IsRel w r R U G vo) (n : Int) : Calls Tryz.prog 9 #[.pointer (some ⟨r, 0, none⟩), .int .i64 n] w fun e w' => e = .returned (.int .i64 (R.fidsOf n : Int)) ∧ Mods [] w w' := by
  have c4 : w.cell? ⟨r, 4, none⟩ = some (.map (some G.mb)) := h.cell 4
  have HU : Hid (PMap KP w G.mb (linkM R G)) := Lib.hid h.links
  have HL := Lib.hid (h.lt _ h.here.2.2.1)
  have HC : Hid ((linkM R G).countP (fun e => e.1.1 == n) = R.fidsOf n) := Lib.hid (by unfold linkM RelP.fidsOf; rw [List.countP_map]; rfl)
  have HN : Hid (R.fidsOf n ≤ 256) := Lib.hid (by
    have h1 : R.fidsOf n ≤ R.links.length := List.countP_le_length
    have h2 := h.wf.links_le
    have h3 := h.wf.fids.2
    omega)
  clear h
  go_enter Tryz.func9, Tryz.ntmps9
  go_wp2_with (at_range; refine wpList_range_pm _ rfl _ 77 rfl 146 Tryz.underlying77 G.mb (linkM R G) rfl HU.out ?_; intro wI hR hmI hsI; have HR := Lib.hid hR; have HMI := Lib.hid hmI; clear hR hmI hsI; go_frame)
  generalize hit : w.heap.size = it at *
  go_loopw [5, 6] (fun v _ wr => ∃ (T : List ((Int × Nat) × Nat)) (c : Nat), PRange KP wr G.mb it (linkM R G) T ∧ Mods [] w wr ∧ v = .int .i64 c ∧ c + T.countP (fun e => e.1.1 == n) = R.fidsOf n) (fun _ _ wr => wr.rangeLeft G.mb it)
  case atStart => exact ⟨_, 0, HR.out, HMI.out, rfl, by rw [Nat.zero_add]; exact HC.out⟩
  case round =>
    obtain ⟨T, c, hT, hm, rfl, hc⟩ := hrel
    have HTT := Lib.hid hT
    have HM := Lib.hid hm
    have HCC := Lib.hid hc
    clear hT hm hc
    go_wp2_with (at_next; refine wpList_next_pm _ rfl _ rfl G.mb it (linkM R G) _ rfl HTT.out ?_ ?_)
    · intro hT0
      have HE : Hid (c = R.fidsOf n) := Lib.hid (by have := HCC.out; rw [hT0] at this; simpa using this)
      go_wp2_with fail
      go_ret
      exact ⟨by rw [← HE.out]; rfl, HM.out⟩
    · intro x1 x2 k w2 hx hxT hxM hR2 hm2 hs2 hl2 hen
      have hR2 : PRange KP w2 G.mb it (linkM R G) (T.filter fun e => decide (e.1 ≠ (x1, x2))) := by simpa using hR2
      have hen' : (Instr.entry (.pointer (some ⟨it, 0, none⟩))).run Tryz.prog w2 = .ok (.tuple #[.agg #[.int .i64 x1, .int .u32 (x2 : Int)], .pointer (some ⟨k, 0, none⟩)]) w2 := hen
      have HMM := Lib.hid (HM.out.trans hm2 (fun b hb => Or.inr (by simp at hb; omega)))
      have HR2 := Lib.hid hR2
      have HL2 := Lib.hid hl2
      have HS := Lib.hid (countP_strike (fun e => e.1.1 == n) HTT.out.nodup hxT)
      clear hen hm2 hs2 hR2 hl2 hxT hxM
      have hmA := (Mods.refl [] w2).alloc (.cells #[.int .i64 x1, .int .u32 (x2 : Int)] 92)
      have HRA := Lib.hid (HR2.out.mods hmA (by simp) (by simp))
      have HLA := Lib.hid (show _ < _ from (HR2.out.left hmA (by simp) (by simp)).symm ▸ HL2.out)
      have HMA := Lib.hid (HMM.out.trans hmA (by simp))
      have hcl : c < 9000000000000000000 := by
        have := HCC.out
        have := HN.out
        omega
      clear hmA
      by_cases e : x1 = n
      · subst e
        go_wp2_with fail
        refine ⟨⟨_, c + 1, HRA.out, HMA.out, by simp, ?_⟩, HLA.out⟩
        have h1 := HS.out
        have h2 := HCC.out
        simp only [beq_self_eq_true, if_true, ne_eq, decide_not] at h1 ⊢
        omega
      · have b1 : (x1 == n) = false := by simpa using e
        go_wp2_with fail
        refine ⟨⟨_, c, HRA.out, HMA.out, rfl, ?_⟩, HLA.out⟩
        have h1 := HS.out
        have h2 := HCC.out
        simp only [b1, ne_eq, decide_not] at h1 ⊢
        simp at h1
        omega
end
end Go.Proofs.YtlgoeipgmjcboaaGreatDoor
