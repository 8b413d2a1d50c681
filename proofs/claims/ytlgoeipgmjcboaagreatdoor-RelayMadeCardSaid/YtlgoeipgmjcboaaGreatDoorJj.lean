/- real: the least of a client's fids whose link is real. | least: the least of the relay's fids that no link has. -/
import Derived.Test.YtlgoeipgmjcboaaGreatDoorJh
namespace Go.Proofs.YtlgoeipgmjcboaaGreatDoor
open Go.RowKit Me

section
variable {w w' : World} {r : Nat} {R : RelP} {U : Nat → Nat} {G : Gh} {vo : Value}
def lesser (a : Option LinkP) (l : LinkP) : Option LinkP := match a with | none => some l | some b => if l.fid < b.fid then some l else some b
theorem lesser_fold : ∀ (L : List LinkP) (a : Option LinkP), (L.foldl lesser a = none → a = none ∧ L = []) ∧ ∀ b, L.foldl lesser a = some b → (b ∈ L ∨ a = some b) ∧ (∀ k ∈ L, b.fid ≤ k.fid) ∧ ∀ c, a = some c → b.fid ≤ c.fid
  | [], a => ⟨fun h => ⟨h, rfl⟩, fun b h => ⟨Or.inr h, by simp, fun c hc => by rw [List.foldl_nil] at h; rw [h] at hc; cases hc; exact Nat.le_refl _⟩⟩
  | l :: L, a => by
    obtain ⟨h1, h2⟩ := lesser_fold L (lesser a l)
    rw [List.foldl_cons]
    have hl : ∃ b, lesser a l = some b ∧ (b = l ∨ a = some b) ∧ b.fid ≤ l.fid ∧ ∀ c, a = some c → b.fid ≤ c.fid := by
      cases a with
      | none => exact ⟨l, rfl, Or.inl rfl, Nat.le_refl _, by simp⟩
      | some c =>
        unfold lesser
        by_cases e : l.fid < c.fid
        · exact ⟨l, by simp [e], Or.inl rfl, Nat.le_refl _, fun d hd => by cases hd; omega⟩
        · exact ⟨c, by simp [e], Or.inr rfl, by omega, fun d hd => by cases hd; exact Nat.le_refl _⟩
    obtain ⟨b0, e0, e1, e2, e3⟩ := hl
    refine ⟨fun h => ?_, fun b h => ?_⟩
    · rw [(h1 h).1] at e0
      cases e0
    · obtain ⟨g1, g2, g3⟩ := h2 b h
      have g4 := g3 b0 e0
      refine ⟨?_, fun k hk => ?_, fun c hc => Nat.le_trans g4 (e3 c hc)⟩
      · rcases g1 with g1 | g1
        · exact Or.inl (List.mem_cons_of_mem _ g1)
        · rw [e0] at g1
          cases g1
          rcases e1 with rfl | e1
          · exact Or.inl (by simp)
          · exact Or.inr e1
      · rcases List.mem_cons.1 hk with rfl | hk
        · exact Nat.le_trans g4 e2
        · exact g2 k hk
def mine (n : Nat) (l : LinkP) : Bool := l.client == n && l.real
theorem real_eq (n : Nat) : R.real n = (R.links.filter (mine n)).foldl lesser none := rfl
theorem real_is (hw : R.Wf) {n : Nat} {l : LinkP} (hl : l ∈ R.links) (hm : mine n l = true) (hle : ∀ k ∈ R.links, mine n k = true → l.fid ≤ k.fid) : R.real n = some l := by
  rw [real_eq]
  obtain ⟨h1, h2⟩ := lesser_fold (R.links.filter (mine n)) none
  cases e : (R.links.filter (mine n)).foldl lesser none with
  | none =>
    have := (h1 e).2
    rw [List.filter_eq_nil_iff] at this
    exact absurd hm (this l hl)
  | some b =>
    obtain ⟨g1, g2, -⟩ := h2 b e
    rcases g1 with g1 | g1
    · obtain ⟨g3, g4⟩ := List.mem_filter.1 g1
      have e1 := g2 l (List.mem_filter.2 ⟨hl, hm⟩)
      have e2 := hle b g3 g4
      simp only [mine, Bool.and_eq_true, beq_iff_eq] at hm g4
      rw [link_key hw g3 hl (by rw [g4.1, hm.1, show b.fid = l.fid by omega])]
    · cases g1
theorem real_none {n : Nat} (h : ∀ k ∈ R.links, mine n k = false) : R.real n = none := by
  rw [real_eq, List.filter_eq_nil_iff.2 (fun k hk => by rw [h k hk]; simp)]
  rfl
/-- Among those that are not to come any more this is the least. -/
def RelReal (R : RelP) (G : Gh) (n : Nat) (T : List ((Int × Nat) × Nat)) (v6 v7 : Value) : Prop :=
  (v6 = .pointer none ∧ ∃ f : Nat, v7 = .int .u32 (f : Int) ∧ ∀ k ∈ R.links, (((k.client : Int), k.fid), G.lb k.id) ∉ T → mine n k = false) ∨
  ∃ l ∈ R.links, mine n l = true ∧ v6 = .pointer (some ⟨G.lb l.id, 0, none⟩) ∧ v7 = .int .u32 (l.fid : Int) ∧ ∀ k ∈ R.links, (((k.client : Int), k.fid), G.lb k.id) ∉ T → mine n k = true → l.fid ≤ k.fid
theorem not_in_strike (hw : R.Wf) {T : List ((Int × Nat) × Nat)} {l k : LinkP} (hl : l ∈ R.links) (hk : k ∈ R.links) (h : (((k.client : Int), k.fid), G.lb k.id) ∉ T.filter fun e => decide (e.1 ≠ ((l.client : Int), l.fid))) : k = l ∨ (((k.client : Int), k.fid), G.lb k.id) ∉ T := by
  by_cases e : k = l
  · exact Or.inl e
  · refine Or.inr (fun hm => h (List.mem_filter.2 ⟨hm, ?_⟩))
    simp only [decide_eq_true_eq]
    exact fun e' => e (link_key hw hk hl e')
set_option maxHeartbeats 2000000 in
theorem real_any (h : IsRel w r R U G vo) (n : Nat) : Calls Tryz.prog 97 #[.pointer (some ⟨r, 0, none⟩), .int .i64 (n : Int)] w fun e w' => e = .returned (.tuple #[.pointer ((R.real n).map fun l => ⟨G.lb l.id, 0, none⟩), .bool (R.real n).isSome]) ∧ Mods [] w w' := by
  have c4 : w.cell? ⟨r, 4, none⟩ = some (.map (some G.mb)) := h.cell 4
  have HM : Hid (PMap KP w G.mb (linkM R G)) := Lib.hid h.links
  have H := Lib.hid h
  have HW := Lib.hid h.wf
  have HLT := Lib.hid h.lt
  clear h
  go_enter Tryz.func97, Tryz.ntmps97
  go_wp2_with (at_range; refine wpList_range_pm _ rfl _ 77 rfl 146 Tryz.underlying77 G.mb (linkM R G) rfl HM.out ?_; intro wI hR hmI hsI; have HR := Lib.hid hR; have HMI := Lib.hid hmI; clear hR hmI hsI; go_frame)
  generalize hit : w.heap.size = it at *
  go_loopw [6, 7] (fun v6 v7 wr => ∃ T, PRange KP wr G.mb it (linkM R G) T ∧ Mods [] w wr ∧ RelReal R G n T v6 v7) (fun _ _ wr => wr.rangeLeft G.mb it)
  case atStart => exact ⟨_, HR.out, HMI.out, Or.inl ⟨rfl, 0, rfl, fun k hk hn => absurd (List.mem_map.2 ⟨k, hk, rfl⟩) hn⟩⟩
  case round =>
    obtain ⟨T, hT, hm, hrr⟩ := hrel
    have HTT := Lib.hid hT
    have HMR := Lib.hid hm
    have HRR := Lib.hid hrr
    clear hT hm hrr
    go_wp2_with (at_next; refine wpList_next_pm _ rfl _ rfl G.mb it (linkM R G) _ rfl HTT.out ?_ ?_)
    · intro hT0
      rcases HRR.out with ⟨rfl, f, rfl, hno⟩ | ⟨l, hl, hml, rfl, rfl, hle⟩
      · have HE : Hid (R.real n = none) := Lib.hid (real_none (fun k hk => hno k hk (by rw [hT0]; simp)))
        go_wp2_with fail
        go_ret2
        exact ⟨by rw [HE.out]; rfl, HMR.out⟩
      · have HE : Hid (R.real n = some l) := Lib.hid (real_is HW.out hl hml (fun k hk hm => hle k hk (by rw [hT0]; simp) hm))
        go_wp2_with fail
        go_ret2
        exact ⟨by rw [HE.out]; rfl, HMR.out⟩
    · intro x1 x2 c w2 hx hxT hxM hR2 hm2 hs2 hl2 hen
      have hR2 : PRange KP w2 G.mb it (linkM R G) (T.filter fun e => decide (e.1 ≠ (x1, x2))) := by simpa using hR2
      obtain ⟨l, hl, e⟩ := List.mem_map.1 hxM
      simp only [Prod.mk.injEq] at e
      obtain ⟨⟨rfl, rfl⟩, rfl⟩ := e
      have hen' : (Instr.entry (.pointer (some ⟨it, 0, none⟩))).run Tryz.prog w2 = .ok (.tuple #[.agg #[.int .i64 (l.client : Int), .int .u32 (l.fid : Int)], .pointer (some ⟨G.lb l.id, 0, none⟩)]) w2 := hen
      have hmw2 := HMR.out.trans hm2 (fun b hb => Or.inr (by simp at hb; omega))
      have hmA := (Mods.refl [] w2).alloc (.cells #[.int .i64 (l.client : Int), .int .u32 (l.fid : Int)] 92)
      have k1 := link_cell ((H.out.still hmw2).still hmA) hl 1
      simp only [List.getElem?_toArray, List.getElem?_cons_zero, List.getElem?_cons_succ] at k1
      have HPA := Lib.hid (hR2.mods hmA (by simp) (by simp))
      have hLA := hR2.left hmA (by simp) (by simp)
      have HLA : Hid ((w2.alloc (.cells #[.int .i64 (l.client : Int), .int .u32 (l.fid : Int)] 92)).rangeLeft G.mb it < wr.rangeLeft G.mb it) := Lib.hid (by rw [hLA]; exact hl2)
      have HMA := Lib.hid (hmw2.trans hmA (by simp))
      have HL := Lib.hid hl
      have HST := Lib.hid (fun k hk hn => not_in_strike (G := G) (T := T) (k := k) HW.out hl hk hn)
      clear hen hm2 hs2 hR2 hl2 hxT hxM hl hmw2 hmA hLA
      -- what does not change the least
      have HSK : Hid (mine n l = false → ∀ v6 v7, RelReal R G n T v6 v7 → RelReal R G n (T.filter fun e => decide (e.1 ≠ ((l.client : Int), l.fid))) v6 v7) := Lib.hid (fun hf v6 v7 hr => by
        rcases hr with ⟨e1, f, e2, hno⟩ | ⟨l', hl', hml', e1, e2, hle⟩
        · refine Or.inl ⟨e1, f, e2, fun k hk hn => ?_⟩
          rcases HST.out k hk hn with rfl | hn
          · exact hf
          · exact hno k hk hn
        · refine Or.inr ⟨l', hl', hml', e1, e2, fun k hk hn hm => ?_⟩
          rcases HST.out k hk hn with rfl | hn
          · rw [hf] at hm
            cases hm
          · exact hle k hk hn hm)
      by_cases e1 : l.client = n
      · subst e1
        cases e2 : l.real
        · rw [e2] at k1
          have HRN := Lib.hid (HSK.out (by unfold mine; rw [e2]; simp) _ _ HRR.out)
          go_wp2_with fail
          exact ⟨⟨_, HPA.out, HMA.out, HRN.out⟩, HLA.out⟩
        · rw [e2] at k1
          have HML : Hid (mine l.client l = true) := Lib.hid (by unfold mine; rw [e2]; simp)
          have q0 : (w2.alloc (.cells #[.int .i64 (l.client : Int), .int .u32 (l.fid : Int)] 92)).cell? ⟨w2.heap.size, 1, none⟩ = some (.int .u32 (l.fid : Int)) := by rw [cell_of_row _ _ _ _ _ _ (heap_alloc_new w2 _)]; rfl
          have q1 : ((w2.alloc (.cells #[.int .i64 (l.client : Int), .int .u32 (l.fid : Int)] 92)).drew).cell? ⟨w2.heap.size, 1, none⟩ = some (.int .u32 (l.fid : Int)) := q0
          have HPD := Lib.hid (HPA.out.mods ((Mods.refl [] _).drew) (by simp) (by simp))
          have HLD : Hid ((w2.alloc (.cells #[.int .i64 (l.client : Int), .int .u32 (l.fid : Int)] 92)).drew.rangeLeft G.mb it < wr.rangeLeft G.mb it) := Lib.hid (by rw [HPA.out.left ((Mods.refl [] _).drew) (by simp) (by simp)]; exact HLA.out)
          have HMD := Lib.hid (HMA.out.trans ((Mods.refl [] _).drew) (by simp))
          rcases HRR.out with ⟨rfl, f, rfl, hno⟩ | ⟨l', hl', hml', rfl, rfl, hle⟩
          · have HNEW : Hid (RelReal R G l.client (T.filter fun e => decide (e.1 ≠ ((l.client : Int), l.fid))) (.pointer (some ⟨G.lb l.id, 0, none⟩)) (.int .u32 (l.fid : Int))) := Lib.hid (Or.inr ⟨l, HL.out, HML.out, rfl, rfl, fun k hk hn hm => by
              rcases HST.out k hk hn with rfl | hn
              · exact Nat.le_refl _
              · rw [hno k hk hn] at hm
                cases hm⟩)
            clear hno
            go_wp2_with fail
            go_region
            all_goals go_wp2_with fail
            all_goals exact ⟨⟨_, HPD.out, HMD.out, HNEW.out⟩, HLD.out⟩
          · by_cases e3 : l.fid < l'.fid
            · have b3 : decide ((l.fid : Int) < (l'.fid : Int)) = true := by simpa using (by omega : (l.fid : Int) < l'.fid)
              have HNEW : Hid (RelReal R G l.client (T.filter fun e => decide (e.1 ≠ ((l.client : Int), l.fid))) (.pointer (some ⟨G.lb l.id, 0, none⟩)) (.int .u32 (l.fid : Int))) := Lib.hid (Or.inr ⟨l, HL.out, HML.out, rfl, rfl, fun k hk hn hm => by
                rcases HST.out k hk hn with rfl | hn
                · exact Nat.le_refl _
                · have := hle k hk hn hm
                  omega⟩)
              clear hle
              go_wp2_with fail
              go_region
              all_goals go_wp2_with fail
              all_goals exact ⟨⟨_, HPD.out, HMD.out, HNEW.out⟩, HLD.out⟩
            · have b3 : decide ((l.fid : Int) < (l'.fid : Int)) = false := by simpa using (by omega : ¬ (l.fid : Int) < l'.fid)
              have HNEW : Hid (RelReal R G l.client (T.filter fun e => decide (e.1 ≠ ((l.client : Int), l.fid))) (.pointer (some ⟨G.lb l'.id, 0, none⟩)) (.int .u32 (l'.fid : Int))) := Lib.hid (Or.inr ⟨l', hl', hml', rfl, rfl, fun k hk hn hm => by
                rcases HST.out k hk hn with rfl | hn
                · omega
                · exact hle k hk hn hm⟩)
              clear hle
              go_wp2_with fail
              exact ⟨⟨_, HPA.out, HMA.out, HNEW.out⟩, HLA.out⟩
      · have b1 : ((l.client : Int) == (n : Int)) = false := by simpa using (by omega : ¬ (l.client : Int) = n)
        have HRN := Lib.hid (HSK.out (by unfold mine; simp [e1]) _ _ HRR.out)
        go_wp2_with fail
        exact ⟨⟨_, HPA.out, HMA.out, HRN.out⟩, HLA.out⟩
end
end Go.Proofs.YtlgoeipgmjcboaaGreatDoor
namespace Go.Proofs.YtlgoeipgmjcboaaGreatDoor
open Go.RowKit Me

theorem u32_keyed : Go.Maps.Keyed Tryz.prog 23 := Go.Maps.int_keyed Tryz.underlying23
theorem key23 (n : Nat) (h : n < 4294967296) : keyOf Tryz.prog 23 (.int .u32 (n : Int)) = some (.int .u32 (n : Int)) := Go.Maps.keyOf_int_mk Tryz.underlying23 (by
  simp [Lit.wf, IntKind.min, IntKind.max, IntKind.signed, IntKind.bits]
  omega)
theorem zero3 (w : World) : (zeroValue 3).run Tryz.prog w = .ok (.int .i64 0) w := by kernel_rfl
theorem wf64 (n : Nat) (h : n ≤ 1000) : (Lit.int .i64 (n : Int)).wf = true := by
  simp [Lit.wf, IntKind.min, IntKind.max, IntKind.signed, IntKind.bits]
  omega
/-- Block b is a map that tells of each number how often it stands in P. -/
def Cnt (w : World) (b : Nat) (P : List Nat) : Prop :=
  ∃ D : DataW Unit, w.ownsMap Tryz.prog 23 (plainElem Tryz.prog 3) b P.length D ∧ ∀ s : Nat, s < 4294967296 → D.atKey (.int .u32 (s : Int)) (.lit (.int .i64 0)) = .lit (.int .i64 (P.count s : Int))
theorem Cnt.start (w : World) : Cnt (w.alloc (.map #[] 0)) w.heap.size [] := ⟨_, World.ownsMap_made _ _ _ _, fun _ _ => rfl⟩
theorem Cnt.mods {w w' : World} {b : Nat} {P : List Nat} {F : List Nat} (h : Cnt w b P) (hm : Mods F w w') (hn : b ∉ F) : Cnt w' b P := by
  obtain ⟨D, ⟨es, clock, hb, F', h1, h2⟩, h3⟩ := h
  exact ⟨D, ⟨es, clock, hm.heap hb hn, F', h1, h2⟩, h3⟩
theorem Cnt.look {w : World} {b : Nat} {P : List Nat} (h : Cnt w b P) (s : Nat) (hs : s < 4294967296) :
    (Instr.lookup 225 (.map (some b)) (.int .u32 (s : Int)) false).run Tryz.prog w = .ok (.int .i64 (P.count s : Int)) w := by
  obtain ⟨D, h1, h2⟩ := h
  obtain ⟨c, hrun, hat, _⟩ := h1.lookup_int u32_keyed Tryz.underlying225 Tryz.underlying3 (zero3 w) (key23 s hs)
  rw [h2 s hs] at hat
  simp only [DataW.lit.injEq, Lit.int.injEq, true_and] at hat
  rw [hat]
  exact hrun
theorem Cnt.put {w w' : World} {b : Nat} {P : List Nat} {D : DataW Unit} (h0 : w.ownsMap Tryz.prog 23 (plainElem Tryz.prog 3) b P.length D) (h3 : ∀ s : Nat, s < 4294967296 → D.atKey (.int .u32 (s : Int)) (.lit (.int .i64 0)) = .lit (.int .i64 (P.count s : Int)))
    (s : Nat) (h : w'.ownsMap Tryz.prog 23 (plainElem Tryz.prog 3) b (P.length + 1) (D.put (.int .u32 (s : Int)) (.lit (.int .i64 ((P.count s + 1 : Nat) : Int))))) : Cnt w' b (s :: P) := by
  refine ⟨_, h, fun t ht => ?_⟩
  by_cases e : t = s
  · subst e
    rw [Go.Maps.atKey_put_same h0.isMap (show WideAt.IsKeyLit (.int .u32 (t : Int)) from trivial), List.count_cons_self]
  · rw [Go.Maps.atKey_put_other (by simpa using fun e' => e (Int.ofNat.inj e')), h3 t ht, List.count_cons_of_ne (fun e' => e e'.symm)]
section
variable {w w' : World} {r : Nat} {R : RelP} {U : Nat → Nat} {G : Gh} {vo : Value}
theorem least_free {k : Nat} (hk : k < R.fids) (hf : ∀ l ∈ R.links, l.num ≠ k) (hb : ∀ j, j < k → ∃ l ∈ R.links, l.num = j) : R.least = some k := by
  unfold RelP.least
  rw [List.find?_range_eq_some]
  refine ⟨by simpa [List.all_eq_true] using hf, by simpa using hk, fun j hj => ?_⟩
  obtain ⟨q, hq, e⟩ := hb j hj
  simp only [Bool.not_eq_true', List.all_eq_false]
  exact ⟨q, hq, by simp [e]⟩
theorem least_none (hb : ∀ j, j < R.fids → ∃ l ∈ R.links, l.num = j) : R.least = none := by
  unfold RelP.least
  rw [List.find?_eq_none]
  intro j hj
  obtain ⟨q, hq, e⟩ := hb j (by simpa using hj)
  simp only [Bool.not_eq_true, List.all_eq_false]
  exact ⟨q, hq, by simp [e]⟩
set_option maxHeartbeats 2000000 in
theorem least_any (h : IsRel w r R U G vo) : Calls Tryz.prog 119 #[.pointer (some ⟨r, 0, none⟩)] w fun e w' => e = .returned (.tuple #[.int .u32 ((R.least.getD 0 : Nat) : Int), .bool R.least.isSome]) ∧ Mods [] w w' := by
  have hmm := @run_makeMap Tryz.prog
  have hm0 := (Mods.refl [] w).alloc (.map #[] 0)
  have c4 : (w.alloc (.map #[] 0)).cell? ⟨r, 4, none⟩ = some (.map (some G.mb)) := (h.still hm0).cell 4
  have HM : Hid (PMap KP (w.alloc (.map #[] 0)) G.mb (linkM R G)) := Lib.hid (h.still hm0).links
  have HC0 := Lib.hid (Cnt.start w)
  have H := Lib.hid h
  have HW := Lib.hid h.wf
  have HM0 := Lib.hid hm0
  have hmb : G.mb < w.heap.size := h.lt _ h.here.2.2.1
  clear h hm0
  go_enter Tryz.func119, Tryz.ntmps119
  go_wp2_with (at_range; refine wpList_range_pm _ rfl _ 77 rfl 146 Tryz.underlying77 G.mb (linkM R G) rfl HM.out ?_; intro wI hR hmI hsI; have HR := Lib.hid hR; have HMI := Lib.hid hmI; clear hR hmI hsI; go_frame)
  have hit0 : (w.alloc (.map #[] 0)).heap.size = w.heap.size + 1 := by simp
  rw [hit0] at HR ⊢
  have HMW := Lib.hid (HM0.out.trans HMI.out (by simp))
  have HCI := Lib.hid (HC0.out.mods HMI.out (by simp))
  have hlm : (linkM R G).length = R.links.length := by unfold linkM; rw [List.length_map]
  have hl9 : R.links.length ≤ 256 := by
    have h2 := HW.out.links_le
    have h3 := HW.out.fids.2
    omega
  clear c4 HM HC0 hit0 HM0 HMI
  generalize htb : w.heap.size = tb at *
  go_loopw [6] (fun _ wr => ∃ (T : List ((Int × Nat) × Nat)) (P : List Nat), PRange KP wr G.mb (tb + 1) (linkM R G) T ∧ Mods [] w wr ∧ Cnt wr tb P ∧ (∀ l ∈ R.links, (((l.client : Int), l.fid), G.lb l.id) ∈ T ∨ l.num ∈ P) ∧ (∀ x ∈ P, ∃ l ∈ R.links, l.num = x) ∧ P.length + T.length = R.links.length) (fun _ wr => wr.rangeLeft G.mb (tb + 1))
  case atStart => exact ⟨_, [], HR.out, HMW.out, HCI.out, fun l hl => Or.inl (List.mem_map.2 ⟨l, hl, rfl⟩), by simp, by simpa using hlm⟩
  case round =>
    obtain ⟨T, P, hT, hm, hc, hin, hout, hlen⟩ := hrel
    have HTT := Lib.hid hT
    have HMR := Lib.hid hm
    have HC := Lib.hid hc
    have HIN := Lib.hid hin
    have HOUT := Lib.hid hout
    clear hT hm hc hin hout
    go_wp2_with (at_next; refine wpList_next_pm _ rfl _ rfl G.mb (tb + 1) (linkM R G) _ rfl HTT.out ?_ ?_)
    · intro hT0
      have HALL : Hid (∀ l ∈ R.links, l.num ∈ P) := Lib.hid (fun l hl => by
        rcases HIN.out l hl with h1 | h1
        · rw [hT0] at h1
          cases h1
        · exact h1)
      have c1 : wr.cell? ⟨r, 1, none⟩ = some (.int .i64 (R.fids : Int)) := (H.out.still HMR.out).cell 1
      have hf9 := HW.out.fids.2
      clear hlen hT0
      go_wp2_with fail
      rename World => wB
      go_loopw [29] (fun i wr => ∃ k : Nat, k ≤ R.fids ∧ i = .int .i64 k ∧ wr = wB ∧ ∀ j, j < k → ∃ l ∈ R.links, l.num = j) (fun i _ => R.fids - (intOf i).toNat)
      case atStart => exact ⟨0, by omega, rfl, rfl, fun j hj => by omega⟩
      case round =>
        obtain ⟨k, hk, rfl, rfl, hb⟩ := hrel
        have HB := Lib.hid hb
        clear hb
        rcases Nat.lt_or_ge k R.fids with hlt | hge
        · have hlk := HC.out.look k (by omega)
          by_cases e : k ∈ P
          · have hcp := List.count_pos_iff.2 e
            generalize P.count k = n at *
            have hb : ((n : Int) == 0) = false := by simpa using (by omega : ¬ (n : Int) = 0)
            have HE := Lib.hid (HOUT.out k e)
            clear hcp e
            go_wp2_with fail
            refine ⟨⟨k + 1, by omega, by simp, trivial, fun j hj => ?_⟩, by simp [intOf]; omega⟩
            by_cases ej : j = k
            · rw [ej]
              exact HE.out
            · exact HB.out j (by omega)
          · rw [List.count_eq_zero.2 e] at hlk
            have HT : Hid (R.least = some k) := Lib.hid (least_free hlt (fun l hl e' => e (e' ▸ HALL.out l hl)) HB.out)
            clear e
            go_wp2_with fail
            go_ret2
            exact ⟨by rw [HT.out]; rfl, HMR.out⟩
        · obtain rfl : k = R.fids := by omega
          have HT : Hid (R.least = none) := Lib.hid (least_none HB.out)
          go_wp2_with fail
          go_ret2
          exact ⟨by rw [HT.out]; rfl, HMR.out⟩
    · intro x1 x2 c w2 hx hxT hxM hR2 hm2 hs2 hl2 hen
      have hR2 : PRange KP w2 G.mb (tb + 1) (linkM R G) (T.filter fun e => decide (e.1 ≠ (x1, x2))) := by simpa using hR2
      obtain ⟨l, hl, e⟩ := List.mem_map.1 hxM
      simp only [Prod.mk.injEq] at e
      obtain ⟨⟨rfl, rfl⟩, rfl⟩ := e
      have hen' : (Instr.entry (.pointer (some ⟨tb + 1, 0, none⟩))).run Tryz.prog w2 = .ok (.tuple #[.agg #[.int .i64 (l.client : Int), .int .u32 (l.fid : Int)], .pointer (some ⟨G.lb l.id, 0, none⟩)]) w2 := hen
      have hmw2 := HMR.out.trans hm2 (fun b hb => Or.inr (by simp at hb; omega))
      have k0 := link_cell (H.out.still hmw2) hl 0
      simp only [List.getElem?_toArray, List.getElem?_cons_zero] at k0
      have hc2 := HC.out.mods hm2 (by simp)
      have hnum := (HW.out.link l hl).2.2.2.2.2
      have hfd := HW.out.fids.2
      have hlk := hc2.look l.num (by omega)
      obtain ⟨D, hown, hat⟩ := hc2
      have hcl : P.count l.num ≤ P.length := List.count_le_length
      have HR2 := Lib.hid hR2
      have HL2 := Lib.hid hl2
      have HM2 := Lib.hid hmw2
      have HAT := Lib.hid hat
      have HOW := Lib.hid hown
      have HLL := Lib.hid hl
      have HLEN := Lib.hid (length_strike HTT.out.nodup hxT)
      have HST := Lib.hid (fun k hk hn => not_in_strike (G := G) (T := T) (k := k) HW.out hl hk hn)
      generalize hcn : P.count l.num = cn at *
      have HCN := Lib.hid hcn
      clear hen hm2 hs2 hR2 hl2 hxT hxM hl hmw2 hat hown hcn
      go_wp2_with (at_mapUpdate; refine wpList_mapUpdate_own _ rfl _ _ _ 225 rfl 23 3 u32_keyed Tryz.underlying225 _ tb P.length D rfl HOW.out (by unfold maxLen; omega) (.int .u32 (l.num : Int)) (.int .i64 ((cn : Int) + 1)) (.int .u32 (l.num : Int)) rfl rfl (key23 l.num (by omega)) (.lit (.int .i64 ((cn + 1 : Nat) : Int))) [] (plainElem_int Tryz.underlying3 (wf64 (cn + 1) (by omega))) ?_; intro w3 ho3 hg3; have HO3 := Lib.hid ho3; have HG3 := Lib.hid (mods_grown hg3); clear ho3 hg3; go_frame)
      refine ⟨⟨T.filter fun e => decide (e.1 ≠ ((l.client : Int), l.fid)), l.num :: P, HR2.out.mods HG3.out (by simp; omega) (by simp), HM2.out.trans HG3.out (fun b hb => Or.inr (by simp at hb; omega)), Cnt.put HOW.out HAT.out l.num (by rw [HCN.out]; exact HO3.out), fun k hk => ?_, fun x hx => ?_, ?_⟩, ?_⟩
      · by_cases ek : (((k.client : Int), k.fid), G.lb k.id) ∈ T.filter fun e => decide (e.1 ≠ ((l.client : Int), l.fid))
        · exact Or.inl ek
        · refine Or.inr ?_
          rcases HST.out k hk ek with rfl | hn
          · simp
          · rcases HIN.out k hk with h1 | h1
            · exact absurd h1 hn
            · exact List.mem_cons_of_mem _ h1
      · rcases List.mem_cons.1 hx with rfl | hx
        · exact ⟨l, HLL.out, rfl⟩
        · exact HOUT.out x hx
      · have := HLEN.out
        rw [List.length_cons]
        omega
      · rw [HR2.out.left HG3.out (by simp; omega) (by simp)]
        exact HL2.out
end
end Go.Proofs.YtlgoeipgmjcboaaGreatDoor
