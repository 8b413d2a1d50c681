/- The law StatDoes. -/
import Derived.Test.YtnpokdbpmnkbjaaGreatDoorAr
import Derived.Test.YtnpokdbpmnkbjaaGreatDoorOa1
namespace Go.Proofs.YtnpokdbpmnkbjaaGreatDoor
open Go Go.RowKit Me

theorem size_enc {L : List StatP} {s : StatP} (h : s ∈ L) : s.size ≤ (encT L).length := by
  induction L with
  | nil => cases h
  | cons x L ih =>
    rw [show encT (x :: L) = x.enc ++ encT L by simp [encT], List.length_append, x.enc_length]
    rcases List.mem_cons.1 h with rfl | h
    · omega
    · have := ih h
      omega
theorem count_enc (L : List StatP) : L.length ≤ (encT L).length := by
  induction L with
  | nil => simp
  | cons x L ih =>
    rw [show encT (x :: L) = x.enc ++ encT L by simp [encT], List.length_append, x.enc_length, List.length_cons]
    have : 49 ≤ x.size := by unfold StatP.size; omega
    omega
theorem wsum_ok {L : List StatP} (h : wsum L 0 ≤ 268435456) (hf : ∀ s ∈ L, s.Fits) : (∀ s ∈ L, s.Fits ∧ s.size ≤ 268435456) ∧ (encT L).length ≤ 268435456 ∧ L.length ≤ 268435456 := by
  have e := wsum_enc L 0 h
  have hl : (encT L).length ≤ 268435456 := by omega
  exact ⟨fun s hs => ⟨hf s hs, Nat.le_trans (size_enc hs) hl⟩, hl, Nat.le_trans (count_enc L) hl⟩
theorem StP.ok {w0 w : World} {p : StP} (h : p.Arg w0) (hm : Mods [] w0 w) (hw : p.weight ≤ 268435456) : OpOk w0 w p.s p.t p.vb p.vc p.B p.C p.num p.vl p.vm p.L p.M p.text := by
  unfold StP.weight at hw
  obtain ⟨l1, l2, l3⟩ := wsum_ok (L := p.L) (by omega) h.lf
  obtain ⟨m1, m2, m3⟩ := wsum_ok (L := p.M) (by omega) h.mf
  exact ⟨h.sf, by omega, h.tf, by omega, ⟨h.inn.b, by omega⟩, ⟨h.inn.c, by omega⟩, h.n, ⟨h.inn.l.mods hm, l1, l2, l3⟩, ⟨h.inn.m, m1, m2, m3⟩, by omega⟩
/-- The law's own record. -/
def sS : StatP := ⟨0, 0, ⟨0, 1, 2⟩, 420, 5, 6, 3, ⟨#[97]⟩, ⟨#[117]⟩, ⟨#[103]⟩, ⟨#[]⟩⟩
theorem sS_fits : sS.Fits := ⟨by decide, by decide, ⟨by decide, by decide, by decide⟩, by decide, by decide, by decide, by decide⟩
theorem zero_fits : StatP.zero.Fits := ⟨by decide, by decide, ⟨by decide, by decide, by decide⟩, by decide, by decide, by decide, by decide⟩
theorem sS_size : sS.size ≤ 268435456 := by decide
theorem argB_nil (w : World) : ArgB w (.slice none 0 0) [] := ⟨⟨none, 0, rfl, Nat.le_refl _, by decide, fun j u hu => by simp at hu⟩, by simp⟩
theorem sts_nil (w : World) : Sts w (.slice none 0 0) [] := ⟨none, 0, rfl, Nat.le_refl _, by decide, fun i s hs => by simp at hs⟩
theorem argS_nil (w : World) : ArgS w (.slice none 0 0) [] := ⟨sts_nil w, by simp, by simp [encT], by simp⟩
theorem okE (w0 w : World) : OpOk w0 w sS StatP.zero (.slice none 0 0) (.slice none 0 0) [] [] 0 (.slice none 0 0) (.slice none 0 0) [] [] ⟨#[]⟩ :=
  ⟨sS_fits, sS_size, zero_fits, by decide, argB_nil _, argB_nil _, by omega, ⟨sts_nil w, by simp, by simp [encT], by simp⟩, argS_nil _, by decide⟩
theorem okP (w0 w : World) {g : Nat} (h : w.heap[g]? = some (.cells (flatT [sS, sS]).toArray 35 (0, 0))) : OpOk w0 w StatP.zero StatP.zero (.slice none 0 0) (.slice none 0 0) [] [] 200 (.slice (some ⟨g, 0, none⟩) 2 2) (.slice none 0 0) [sS, sS] [] ⟨#[]⟩ := by
  refine ⟨zero_fits, by decide, zero_fits, by decide, argB_nil _, argB_nil _, by omega, ⟨⟨some ⟨g, 0, none⟩, 2, rfl, by simp, by decide, fun i s hs => ⟨g, 0, rfl, fun j u hu => ?_⟩⟩, fun s hs => ?_, ?_, by simp⟩, argS_nil _, by decide⟩
  · have hj : j < 13 := by have := (List.getElem?_eq_some_iff.1 hu).1; rwa [statV_len'] at this
    rw [cell_of_row _ _ _ _ _ _ h, List.getElem?_toArray, show 0 + i * 13 + j = i * 13 + j by omega, flatT_at [sS, sS] i j s hs hj]
    exact hu
  · simp at hs
    subst hs
    exact ⟨sS_fits, sS_size⟩
  · decide
theorem BkQ.start {w : World} {b : Nat} (h : w.heap[b]? = some (.cells #[.slice none 0 0, .slice none 0 0, .slice none 0 0, .slice none 0 0] 28 (0, 0))) : (BkQ b 0).A w [b] := by
  refine ⟨[], [], ⟨by simp, by simp, by simp, by simp⟩, .slice none 0 0, .slice none 0 0, .slice none 0 0, .slice none 0 0, [b], [], ⟨h, rfl⟩, ⟨[], [], ⟨[], [], ⟨World.ownsRow_nil _ _ _ _, rfl⟩, ⟨[], [], ⟨World.ownsRow_nil _ _ _ _, rfl⟩, rfl, by simp, rfl⟩, by simp, rfl⟩, ⟨[], [], ⟨World.ownsRow_nil _ _ _ _, rfl⟩, ⟨[], [], ⟨World.ownsRow_nil _ _ _ _, rfl⟩, rfl, by simp, rfl⟩, by simp, rfl⟩, by simp, rfl⟩, by simp, rfl⟩
def sSv : Array Value := #[.int .u16 0, .int .u32 0, .int .u8 0, .int .u32 1, .int .u64 2, .int .u32 420, .int .u32 5, .int .u32 6, .int .u64 3, .string ⟨#[97]⟩, .string ⟨#[117]⟩, .string ⟨#[103]⟩, .string ⟨#[]⟩]
theorem sS_cells {w : World} {b : Nat} (h : w.heap[b]? = some (.cells sSv 35 (0, 0))) : w.cell? ⟨b, 0, none⟩ = some (.int .u16 0) ∧ w.cell? ⟨b, 1, none⟩ = some (.int .u32 0) ∧ w.cell? ⟨b, 2, none⟩ = some (.int .u8 0) ∧ w.cell? ⟨b, 3, none⟩ = some (.int .u32 1) ∧ w.cell? ⟨b, 4, none⟩ = some (.int .u64 2) ∧ w.cell? ⟨b, 5, none⟩ = some (.int .u32 420) ∧ w.cell? ⟨b, 6, none⟩ = some (.int .u32 5) ∧ w.cell? ⟨b, 7, none⟩ = some (.int .u32 6) ∧ w.cell? ⟨b, 8, none⟩ = some (.int .u64 3) ∧ w.cell? ⟨b, 9, none⟩ = some (.string ⟨#[97]⟩) ∧ w.cell? ⟨b, 10, none⟩ = some (.string ⟨#[117]⟩) ∧ w.cell? ⟨b, 11, none⟩ = some (.string ⟨#[103]⟩) ∧ w.cell? ⟨b, 12, none⟩ = some (.string ⟨#[]⟩) := by
  refine ⟨?_, ?_, ?_, ?_, ?_, ?_, ?_, ?_, ?_, ?_, ?_, ?_, ?_⟩ <;> (rw [cell_of_row _ _ _ _ _ _ h]; rfl)
theorem sS_one : ∀ v ∈ sSv.toList, v.oneCell' = true := by
  intro v hv
  simp only [sSv, List.mem_cons, List.not_mem_nil, or_false] at hv
  rcases hv with h | h | h | h | h | h | h | h | h | h | h | h | h <;> (subst h; rfl)
def RelDo (P : List StP) (w : World) (b bs : Nat) (i : Value) (wr : World) : Prop :=
  ∃ k : Nat, k ≤ P.length ∧ i = .int .i64 (k : Int) ∧ Post ((BkQ b (4 + 2 * k)).star ((Pc.blk bs (.cells sSv 35)).star Pc.emp)) w [] wr
set_option maxRecDepth 100000 in
set_option maxHeartbeats 8000000 in
theorem statDoes_any {w : World} (hT : Lib.Utf8Tabs 0 1 w) (P : List StP) {v : Value} (h : Scr w v P) (ha : ∀ p ∈ P, p.Arg w) :
    Calls Tryz.prog 3 #[v] w fun e w' => e = .returned (.bool true) ∧ Mods [] w w' := by
  have HT := Lib.hid hT
  have HS := Lib.hid h
  have HA := Lib.hid ha
  have HB := Lib.hid (beyond_any P h (fun p hp => (ha p hp).raw))
  obtain ⟨A, c, rfl, -⟩ := h
  clear hT ha
  go_enter Tryz.func3, Tryz.ntmps3
  go_wp2_with fail
  refine HB.out.mono ?_; rintro e w1 ⟨far, rfl, hfar, hm⟩
  cases far with
  | true =>
    have HM := Lib.hid hm
    clear hm hfar
    go_wp2_with fail
    go_ret
    exact ⟨rfl, HM.out⟩
  | false =>
    obtain ⟨hcnt, hwt⟩ := hfar rfl
    have HW := Lib.hid hwt
    clear hfar hwt HB
    have hp0 : Post Pc.emp w [] w1 := ⟨[], rfl, hm, by simp⟩
    have hp1 : Post ((BkQ w1.heap.size 0).star Pc.emp) w [] (w1.alloc (.cells #[.slice none 0 0, .slice none 0 0, .slice none 0 0, .slice none 0 0] 28)) :=
      hp0.add ((Mods.refl [] w1).alloc _) (BkQ.start (heap_alloc_new w1 _)) (by simp)
    generalize hw2 : w1.alloc (.cells #[.slice none 0 0, .slice none 0 0, .slice none 0 0, .slice none 0 0] 28) = w2 at *
    have H2 := Lib.hid ((hp1.alloc (.cells sSv 35)).ent (Pc.Ent.swap _ _ _))
    have HW2 := Lib.hid hw2
    have hstore := run_store_new (P := Tryz.prog) w2 zeroV sSv 35 rfl sS_one
    unfold zeroV sSv at hstore
    clear hm hp0 hp1 hw2
    go_upto_region 5 with fail
    rw [HW2.out]
    clear HW2
    generalize w1.heap.size = b at *
    go_upto_region 6 with fail
    clear hstore
    have H3 : Hid (Post ((BkQ b 0).star ((Pc.blk w2.heap.size (.cells sSv 35)).star Pc.emp)) w [] (w2.alloc (.cells #[.int .u16 0, .int .u32 0, .int .u8 0, .int .u32 1, .int .u64 2, .int .u32 420, .int .u32 5, .int .u32 6, .int .u64 3, .string ⟨#[97]⟩, .string ⟨#[117]⟩, .string ⟨#[103]⟩, .string ⟨#[]⟩] 35))) := Lib.hid H2.out
    clear H2
    generalize w2.alloc (.cells #[.int .u16 0, .int .u32 0, .int .u8 0, .int .u32 1, .int .u64 2, .int .u32 420, .int .u32 5, .int .u32 6, .int .u64 3, .string ⟨#[97]⟩, .string ⟨#[117]⟩, .string ⟨#[103]⟩, .string ⟨#[]⟩] 35) = w3 at *
    generalize w2.heap.size = bs at *
    obtain ⟨c0, c1, c2, c3, c4, c5, c6, c7, c8, c9, c10, c11, c12⟩ := sS_cells (H3.out.blkOf ((Pc.Ent.right _ _).trans (Pc.Ent.left _ _)))
    go_wp2_with fail
    clear c0 c1 c2 c3 c4 c5 c6 c7 c8 c9 c10 c11 c12
    refine (kstep_any (kind := 1) H3.out (by omega) HT.out (okE _ _)).mono ?_; rintro e w4 ⟨rfl, hp⟩
    have H4 := Lib.hid hp
    clear hp H3
    obtain ⟨c0, c1, c2, c3, c4, c5, c6, c7, c8, c9, c10, c11, c12⟩ := sS_cells (H4.out.blkOf ((Pc.Ent.right _ _).trans (Pc.Ent.left _ _)))
    go_wp2_with fail
    clear c0 c1 c2 c3 c4 c5 c6 c7 c8 c9 c10 c11 c12
    refine (kstep_any (kind := 1) H4.out (by omega) HT.out (okE _ _)).mono ?_; rintro e w5 ⟨rfl, hp⟩
    have H5 := Lib.hid hp
    clear hp H4
    go_wp2_with fail
    go_loopw [8, 9] (fun i _ wr => RelDo P w b bs i wr) (fun i _ _ => P.length - (intOf i).toNat)
    case atStart => exact ⟨0, by omega, rfl, H5.out⟩
    case round =>
      clear H5
      obtain ⟨k, hk, rfl, hp⟩ := hrel
      have HP := Lib.hid hp
      rcases Nat.lt_or_ge k P.length with hlt | hge
      · obtain ⟨p, hpp⟩ : ∃ p, P[k]? = some p := ⟨_, List.getElem?_eq_getElem hlt⟩
        have hmem := List.mem_of_getElem? hpp
        have HOK := Lib.hid (StP.ok (HA.out p hmem) hp.mods (HW.out p hmem))
        obtain ⟨⟨g, off, rfl, hrg⟩, -⟩ := (HS.out.mods hp.mods).at hpp
        have HRG := Lib.hid hrg
        clear hp hpp hmem hrg
        go_wp2_with (refine wpList_load_mid rfl 40 _ rfl g (off + k * 33) rfl p.v.toList _ HRG.out Tryz.underlying40 rfl info40 ?_)
        refine (kstep_any HP.out (by omega) HT.out HOK.out).mono ?_; rintro e w6 ⟨rfl, hp⟩
        have HN : Hid (RelDo P w b bs (.int .i64 ((k : Int) + 1)) w6) := Lib.hid ⟨k + 1, by omega, rfl, hp⟩
        clear hp
        go_wp2_with fail
        exact ⟨HN.out, by simp only [intOf]; omega⟩
      · obtain rfl : k = P.length := by omega
        clear hp
        obtain ⟨c0, c1, c2, c3, c4, c5, c6, c7, c8, c9, c10, c11, c12⟩ := sS_cells (HP.out.blkOf ((Pc.Ent.right _ _).trans (Pc.Ent.left _ _)))
        go_wp2_with fail
        clear c0 c1 c2 c3 c4 c5 c6 c7 c8 c9 c10 c11 c12
        refine (kstep_any (kind := 1) HP.out (by omega) HT.out (okE _ _)).mono ?_; rintro e w6 ⟨rfl, hp⟩
        have H6 := Lib.hid hp
        clear hp HP
        obtain ⟨c0, c1, c2, c3, c4, c5, c6, c7, c8, c9, c10, c11, c12⟩ := sS_cells (H6.out.blkOf ((Pc.Ent.right _ _).trans (Pc.Ent.left _ _)))
        have H7 := Lib.hid ((H6.out.alloc (.cells (flatT [sS, sS]).toArray 35)).ent (Pc.Ent.swap _ _ _))
        have HL7 := Lib.hid (heap_alloc_new w6 (.cells (flatT [sS, sS]).toArray 35))
        go_wp2_with fail
        clear c0 c1 c2 c3 c4 c5 c6 c7 c8 c9 c10 c11 c12
        refine (kstep_any (kind := 5) (num := 200) H7.out (by omega) HT.out (okP _ _ HL7.out)).mono ?_; rintro e w8 ⟨rfl, hp⟩
        have hp8 := hp.ent ((Pc.Ent.refl _).mono (Pc.Ent.right _ _))
        obtain ⟨I, J, vb, vc, vs, vt, hok, hq⟩ := BkQ.open hp8
        have HQ : Hid (Post (Ow b vb vc vs vt I J ((Pc.blk bs (.cells sSv 35)).star Pc.emp)) w [] w8) := Lib.hid hq
        have HOK := Lib.hid hok
        have HOW : Hid (OwOk I J 1010000000) := Lib.hid ⟨by have := hok.i; omega, by have := hok.j; omega, fun x hx => by have := hok.bi x hx; omega, fun x hx => by have := hok.bj x hx; omega⟩
        clear hp hp8 hok hq H6 H7 HL7
        go_wp2_with fail
        refine (own_any HQ.out HOW.out).mono ?_; rintro e w9 ⟨rfl, I', J', hi, hj, hp⟩
        have H9 : Hid (Post ((BkQ b 20000000).star ((Pc.blk bs (.cells sSv 35)).star Pc.emp)) w [] w9) := Lib.hid (BkQ.shut ⟨by rw [hi.len]; have := HOK.out.i; omega, by rw [hj.len]; have := HOK.out.j; omega, fun x hx => by have := hi.bs x hx; omega, fun x hx => by have := hj.bs x hx; omega⟩ hp)
        clear hi hj hp HQ HOW HOK
        obtain ⟨c0, c1, c2, c3, c4, c5, c6, c7, c8, c9, c10, c11, c12⟩ := sS_cells (H9.out.blkOf ((Pc.Ent.right _ _).trans (Pc.Ent.left _ _)))
        go_wp2_with fail
        clear c0 c1 c2 c3 c4 c5 c6 c7 c8 c9 c10 c11 c12
        refine (kstep_any (kind := 1) H9.out (by omega) HT.out (okE _ _)).mono ?_; rintro e w10 ⟨rfl, hp⟩
        have H10 := Lib.hid hp
        clear hp H9
        go_wp2_with fail
        go_ret
        exact ⟨rfl, H10.out.mods⟩
end Go.Proofs.YtnpokdbpmnkbjaaGreatDoor
