/- The law DumpBytes. | The arguments of DumpBytes: a script is a slice of steps, each within its bounds. -/
import Derived.Test.YtmcekhgmmocajaaGreatDoorBq
import Derived.Test.YtmcekhgmmocajaaGreatDoorDw
import Derived.Test.YtmcekhgmmocajaaGreatDoorOy
import Derived.Deep.CutBlock
import Derived.Deep.CutRange
import Derived.Test.YtmcekhgmmocajaaGreatDoorOg
import Derived.Deep.Slices
namespace Go.Proofs.YtmcekhgmmocajaaGreatDoor
open Go Go.RowKit Me

/-- What is so of a step that is handed in. -/
structure StP.Arg (w : World) (p : StP) : Prop where
  inn : p.In w
  raw : p.Raw
  lf : ∀ e ∈ p.L, e.Fits
  mf : ∀ e ∈ p.M, e.Fits
theorem arg_ok {w : World} {v : Value} {L : List EntP} (h : Ents w v L) (hf : ∀ e ∈ L, e.Fits) (hw : wsumE L 0 ≤ 67108864) : ArgE w v L := by
  obtain ⟨h1, h2⟩ := wsumE_ok L 0 hw
  exact ⟨h, fun e he => ⟨hf e he, by have := h2 e he; omega, by have := h2 e he; omega, by have := h2 e he; omega⟩, by omega⟩
theorem StP.ok {R : Pc} {w0 w : World} {p : StP} (h : p.Arg w0) (hm : Mods [] w0 w) (hw : p.weight ≤ 67108864) : OpOk R w0 w p.vl p.vm p.vb p.vc p.L p.M p.B p.C := by
  unfold StP.weight at hw
  exact ⟨(arg_ok h.inn.l h.lf (by omega)).mods hm, arg_ok h.inn.m h.mf (by omega), ArgB.argR ⟨h.inn.b, by omega⟩, ArgB.argR ⟨h.inn.c, by omega⟩⟩
theorem rd_nil (w : World) : Rd w (.slice none 0 0) (([] : List UInt8).map byteV) := ⟨none, 0, rfl, Nat.le_refl _, by decide, fun j u hu => by simp at hu⟩
theorem argR_nil (R : Pc) (w : World) : ArgR R w (.slice none 0 0) [] := ⟨fun W _ => rd_nil W, by simp⟩
theorem argE_nil (w : World) : ArgE w (.slice none 0 0) [] := ⟨⟨none, 0, rfl, Nat.le_refl _, by decide, fun i e he => by simp at he⟩, by simp, by simp⟩
theorem okS (R : Pc) (w0 w : World) : OpOk R w0 (smallW w) (.slice (some ⟨w.heap.size + 1, 0, none⟩) 2 2) (.slice none 0 0) (.slice none 0 0) (.slice none 0 0) smallL [] [] [] :=
  ⟨⟨smallW_ents w, small_small, by decide⟩, argE_nil _, argR_nil _ _, argR_nil _ _⟩
theorem okD {R : Pc} {w0 w : World} {vb vc : Value} {B C : List UInt8} (hb : ArgR R w0 vb B) (hc : ArgR R w0 vc C) : OpOk R w0 w (.slice none 0 0) (.slice none 0 0) vb vc [] [] B C := ⟨argE_nil _, argE_nil _, hb, hc⟩
theorem BkN.start {w : World} {b B : Nat} (h : w.heap[b]? = some (.cells #[.slice none 0 0, .slice none 0 0, .slice none 0 0, .slice none 0 0] 41 (0, 0))) : (BkN b 0 0 B).A w [b] := by
  refine ⟨[], [], [], ⟨by simp, by simp, by simp, by simp, by simp, by simp⟩, .slice none 0 0, .slice none 0 0, .slice none 0 0, .slice none 0 0, [b], [], ⟨h, rfl⟩,
    ⟨[], [], ⟨[], [], ⟨World.ownsRow_nil _ _ _ _, rfl⟩, ⟨[], [], ⟨World.ownsRow_nil _ _ _ _, rfl⟩, rfl, by simp, rfl⟩, by simp, rfl⟩, ⟨[], [], ⟨[], [], ⟨World.ownsRow_nil _ _ _ _, rfl⟩, rfl, by simp, rfl⟩, ⟨[], [], ⟨World.ownsRow_nil _ _ _ _, rfl⟩, rfl, by simp, rfl⟩, by simp, rfl⟩, by simp, rfl⟩, by simp, rfl⟩
def RelDo (P : List StP) (w : World) (b : Nat) (R : Pc) (ix : Value) (wr : World) : Prop :=
  ∃ k : Nat, k ≤ P.length ∧ k ≤ 100 ∧ ix = .int .i64 (k : Int) ∧ Post ((BkN b (400000000 + 200000000 * k) (6 + 3 * k) 100000000).star R) w [] wr
set_option maxRecDepth 100000 in
set_option maxHeartbeats 8000000 in
theorem dumpBytes_any {w : World} (hT : Tabs w) (P : List StP) {v : Value} (h : Scr w v P) (ha : ∀ p ∈ P, p.Arg w) :
    Calls Tryz.prog 4 #[v] w fun e w' => e = .returned (.bool true) ∧ Mods [] w w' := by
  have HT := Lib.hid hT
  have HS := Lib.hid h
  have HA := Lib.hid ha
  have HB := Lib.hid (beyond_any P h (fun p hp => (ha p hp).raw))
  obtain ⟨A, c, rfl, -, hcm, -⟩ := h
  have hpl : P.length ≤ 9223372036854775807 := by have := HS.out; obtain ⟨A', c', e, h1, h2, -⟩ := this; unfold maxLen at h2; omega
  clear hT ha hcm
  go_enter Tryz.func4, Tryz.ntmps4
  go_wp2_with fail
  refine HB.out.mono ?_; rintro e w1 ⟨m, rfl, hnear, hm⟩
  by_cases hfar : 67108864 < (m : Int)
  · have q1 : decide (67108864 < (m : Int)) = true := by simp; omega
    have HM := Lib.hid hm
    clear hm hnear hfar
    go_wp2_with fail
    go_ret
    exact ⟨rfl, HM.out⟩
  · have q1 : decide (67108864 < (m : Int)) = false := by simp; omega
    have HW : Hid (∀ p ∈ P.take 100, p.weight ≤ 67108864) := Lib.hid (hnear (by omega))
    have hp0 : Post Pc.emp w [] w1 := ⟨[], rfl, hm, by simp⟩
    have hp1 : Post ((BkN w1.heap.size 0 0 100000000).star Pc.emp) w [] (w1.alloc (.cells #[.slice none 0 0, .slice none 0 0, .slice none 0 0, .slice none 0 0] 41)) :=
      hp0.add ((Mods.refl [] w1).alloc _) (BkN.start (heap_alloc_new w1 _)) (by simp)
    have H2 := Lib.hid hp1
    rw [q1]
    clear hfar hnear HB hm hp0 hp1 q1
    go_upto_region 5 with fail
    generalize w1.alloc (.cells #[.slice none 0 0, .slice none 0 0, .slice none 0 0, .slice none 0 0] 41) = w2 at *
    generalize w1.heap.size = b at *
    go_wp2_with fail
    refine (small_exact w2).mono ?_; rintro e w3 ⟨rfl, rfl⟩
    have HR := Lib.hid (rencode_any smallL (smallW_ents w2) small_small (by decide))
    rw [encPR_eq, small_enc] at HR
    have H3 := Lib.hid (H2.out.still (smallW_mods w2))
    clear H2
    generalize hsw : smallW w2 = w3 at *
    clear hsw
    go_wp2_with fail
    refine HR.out.mono ?_; rintro e w4 ⟨vb, rfl, hob, hm4⟩
    have H4 : Hid (Post ((BkN b 0 0 100000000).star (rowOf vb (fullD smallL))) w [] w4) := Lib.hid ((H3.out.addRow hm4 hob).ent ((Pc.Ent.refl _).mono (Pc.Ent.left _ _) |>.trans (Pc.Ent.comm _ _)))
    have hbl : (fullD smallL).length ≤ 100000000 := by rw [fullD_length, small_size]; omega
    have HAB : Hid (ArgR (rowOf vb (fullD smallL)) w vb (fullD smallL)) := Lib.hid ⟨fun W hp => Rd.of_own (hp.rowAt (Pc.Ent.refl _)), hbl⟩
    obtain ⟨Ab, cb, rfl⟩ := own_ctor hob
    clear hob hm4 H3 HR
    generalize hB0 : fullD smallL = B0 at *
    clear hB0
    simp only at *
    go_wp2_with fail
    refine (small_exact w4).mono ?_; rintro e w5 ⟨rfl, rfl⟩
    have H5 := Lib.hid (H4.out.still (smallW_mods w4))
    have HO5 := Lib.hid (okS (rowOf (.slice Ab B0.length cb) B0) w w4)
    clear H4
    generalize hsw : smallW w4 = w5 at *
    clear hsw
    go_wp2_with fail
    refine (kstep_any (kind := 1) H5.out (by omega) (by omega) (by omega) (by omega) HT.out HO5.out).mono ?_; rintro e w6 ⟨rfl, hp⟩
    have H6 := Lib.hid hp
    clear hp H5 HO5
    go_wp2_with fail
    refine (kstep_any (kind := 2) H6.out (by omega) (by omega) (by omega) (by omega) HT.out (okD HAB.out (argR_nil _ _))).mono ?_; rintro e w7 ⟨rfl, hp⟩
    have H7 := Lib.hid hp
    clear hp H6
    go_upto_block 0 with fail
    go_cut [9, 10] from 18 (fun _ _ w' => Post ((BkN b 20400000000 306 100000000).star (rowOf (.slice Ab B0.length cb) B0)) w [] w')
    case first =>
      go_wp2_with fail
      go_loopw [9, 10] (fun ix _ wr => RelDo P w b (rowOf (.slice Ab B0.length cb) B0) ix wr) (fun ix _ _ => P.length - (intOf ix).toNat)
      case atStart => exact ⟨0, by omega, by omega, rfl, H7.out⟩
      case round =>
        clear H7
        obtain ⟨k, hk, hk1, rfl, hp⟩ := hrel
        have HP := Lib.hid hp
        have fin : (k = P.length ∨ k = 100) → True := fun _ => trivial
        by_cases hboth : k < P.length ∧ k < 100
        · obtain ⟨hlt, hlt1⟩ := hboth
          obtain ⟨p, hpp⟩ : ∃ p, P[k]? = some p := ⟨_, List.getElem?_eq_getElem hlt⟩
          have hmem := List.mem_of_getElem? hpp
          have HOK := Lib.hid (StP.ok (R := rowOf (.slice Ab B0.length cb) B0) (HA.out p hmem) hp.mods (HW.out p (List.mem_of_getElem? (by rw [List.getElem?_take_of_lt hlt1]; exact hpp))))
          obtain ⟨⟨g, off, rfl, hrg⟩, -⟩ := (HS.out.mods hp.mods).at hpp
          have HRG := Lib.hid hrg
          clear hp hpp hmem hrg fin
          go_wp2_with (refine wpList_load_mid rfl 44 _ rfl g (off + k * 5) rfl p.v.toList _ HRG.out Tryz.underlying44 rfl info44 ?_)
          refine (kstep_any HP.out (by omega) (by omega) (by omega) (by omega) HT.out HOK.out).mono ?_; rintro e w8 ⟨rfl, hp⟩
          have HN : Hid (RelDo P w b (rowOf (.slice Ab B0.length cb) B0) (.int .i64 ((k : Int) + 1)) w8) := Lib.hid ⟨k + 1, by omega, by omega, rfl, by
            have e1 : 400000000 + 200000000 * (k + 1) = 400000000 + 200000000 * k + 200000000 := by omega
            have e2 : 6 + 3 * (k + 1) = 6 + 3 * k + 3 := by omega
            rw [e1, e2]
            exact hp⟩
          clear hp
          go_wp2_with fail
          exact ⟨HN.out, by simp only [intOf]; omega⟩
        · have HE := Lib.hid (BkN.up hp (i' := 20400000000) (j' := 306) (B' := 100000000) (by omega) (by omega) (Nat.le_refl _))
          clear hp fin
          by_cases hlt : k < P.length
          · obtain rfl : k = 100 := by omega
            clear hboth
            go_wp2_with fail
            go_meet
            case rel => exact HE.out
          · obtain rfl : k = P.length := by omega
            clear hboth
            go_wp2_with fail
            go_meet
            case rel => exact HE.out
    case rest =>
    have HP := Lib.hid hcut
    clear H7 hcut w7
    rename World => w8
    go_wp2_with fail
    refine (kstep_any (kind := 2) HP.out (by omega) (by omega) (by omega) (by omega) HT.out (okD HAB.out HAB.out)).mono ?_; rintro e w9 ⟨rfl, hp⟩
    have H9 := Lib.hid hp
    clear hp HP
    go_wp2_with fail
    refine (small_exact w9).mono ?_; rintro e ws ⟨rfl, hws⟩
    have hrow9 : ws.heap[w9.heap.size + 1]? = some (.cells (smallRow (Value.slice (some ⟨w9.heap.size, 0, none⟩) 2 2)) 47 (0, 0)) := by rw [hws]; exact smallW_row w9
    have HM9 : Hid (Mods [] w9 ws) := Lib.hid (by rw [hws]; exact smallW_mods w9)
    have hrow := (Go.heap_alloc_old ws (.cells #[.int .u8 122, .int .u8 122] 5 (2, 3)) (Array.getElem?_eq_some_iff.1 hrow9).1).trans hrow9
    have c9 : (ws.alloc (.cells #[.int .u8 122, .int .u8 122] 5 (2, 3))).cell? ⟨w9.heap.size + 1, 9, none⟩ = some (.slice (some ⟨w9.heap.size, 0, none⟩) 2 2) := by
      rw [cell_of_row _ _ _ _ _ _ hrow]
      rfl
    have f9 : (ws.alloc (.cells #[.int .u8 122, .int .u8 122] 5 (2, 3))).frozen? ⟨w9.heap.size + 1, 9, none⟩ = false := frozen_of_row _ _ _ _ _ hrow
    have hz := zW_facts [122, 122] (by decide) (2, 3) hrow9
    have HZE := Lib.hid hz.1
    have HZM := Lib.hid (HM9.out.trans hz.2 (fun x hx => by simp at hx; right; omega))
    have HH := Lib.hid (H9.out.still HZM.out)
    have hw : zW ws (w9.heap.size + 1) [122, 122] (2, 3) = (ws.alloc (.cells #[.int .u8 122, .int .u8 122] 5 (2, 3))).setCell ⟨w9.heap.size + 1, 9, none⟩ (.slice (some ⟨ws.heap.size, 0, none⟩) 2 2) := rfl
    have HR := Lib.hid (rencode_any (smallZ [122, 122]) hz.1 (smallZ_small [122, 122] (by decide)) (by decide))
    rw [encPR_eq, smallZ_enc [122, 122] (by decide)] at HR
    generalize zW ws (w9.heap.size + 1) [122, 122] (2, 3) = wz at *
    have HWZ := Lib.hid hw
    have kc := fun (w : World) (C : Array Value) (n c : Nat) => Lib.run_convert_bytes_const (P := Tryz.prog) w 22 5 C n c Tryz.underlying22 Tryz.underlying5
    clear hrow hz hw hrow9 hws H9
    go_wp2_with fail
    rw [← HWZ.out]
    refine HR.out.mono ?_
    rintro x w10 ⟨vc, rfl, hoc, hm10⟩
    have H10 : Hid (Post ((BkN b (20400000000 + 200000000) (306 + 3) 100000000).star ((rowOf vc (fullD (smallZ [122, 122]))).star (rowOf (.slice Ab B0.length cb) B0))) w [] w10) := Lib.hid ((HH.out.addRow hm10 hoc).ent (Pc.Ent.swap _ _ _))
    have hcl : (fullD (smallZ [122, 122])).length ≤ 100000000 := by rw [fullD_length, smallZ_size]; decide
    have HAC : Hid (ArgR ((rowOf vc (fullD (smallZ [122, 122]))).star (rowOf (.slice Ab B0.length cb) B0)) w vc (fullD (smallZ [122, 122]))) := Lib.hid ⟨fun W hp => Rd.of_own (hp.rowAt (Pc.Ent.left _ _)), hcl⟩
    have HAB2 : Hid (ArgR ((rowOf vc (fullD (smallZ [122, 122]))).star (rowOf (.slice Ab B0.length cb) B0)) w (.slice Ab B0.length cb) B0) := Lib.hid ⟨fun W hp => Rd.of_own (hp.rowAt (Pc.Ent.right _ _)), HAB.out.len⟩
    obtain ⟨Ac, cc, rfl⟩ := own_ctor hoc
    clear hoc hm10 HR HZE HZM HH c9 f9 HWZ kc
    generalize fullD (smallZ [122, 122]) = C0 at *
    simp only at *
    go_wp2_with fail
    refine (kstep_any (kind := 3) H10.out (by omega) (by omega) (by omega) (by omega) HT.out (okD HAB2.out HAC.out)).mono ?_; rintro e w11 ⟨rfl, hp⟩
    have H11 := Lib.hid hp
    clear hp H10
    go_wp2_with fail
    refine (own_any H11.out (by omega) (by omega) (by omega)).mono ?_; rintro e w12 ⟨rfl, hp⟩
    have H12 := Lib.hid hp
    clear hp H11
    go_wp2_with fail
    refine (small_exact w12).mono ?_; rintro e w13 ⟨rfl, rfl⟩
    have H13 := Lib.hid (H12.out.still (smallW_mods w12))
    have HO13 := Lib.hid (okS ((rowOf (.slice Ac C0.length cc) C0).star (rowOf (.slice Ab B0.length cb) B0)) w w12)
    clear H12
    generalize hsw : smallW w12 = w13 at *
    clear hsw
    go_wp2_with fail
    refine (kstep_any (kind := 1) H13.out (by omega) (by omega) (by omega) (by omega) HT.out HO13.out).mono ?_; rintro e w14 ⟨rfl, hp⟩
    have H14 := Lib.hid hp.mods
    clear hp H13 HO13
    go_wp2_with fail
    go_ret
    exact ⟨rfl, H14.out⟩
end Go.Proofs.YtmcekhgmmocajaaGreatDoor
namespace Go.Proofs.YtmcekhgmmocajaaGreatDoor
open Go.RowKit Go.ChangeShapes Go.WideShapes Go.Deep Me

theorem cellsOf44 : Tryz.prog.cellsOf 44 = 5 := by kernel_rfl
theorem cellsOf23 : Tryz.prog.cellsOf 23 = 1 := by kernel_rfl
theorem cellsOf3 : Tryz.prog.cellsOf 3 = 1 := by kernel_rfl
section
variable {H : Type} {enc : TypeId × Value → H} {w : World}
set_option maxRecDepth 100000 in
/-- A list of entries, read out of the world. -/
theorem open_ents_cells {fuel : Nat} {c : Value} {x : DataW H × List MemPlace} (h : DataW.trod enc Tryz.prog w 0 (fun _ => true) true fuel 23 [c] = some x) (hs : ∀ n ∈ x.1.weights Tryz.prog 23, n ≤ reachBytes) :
    ∃ L : List EntP, Ents w c L ∧ (∀ e ∈ L, e.Fits) ∧ ∀ e ∈ L, Sized e := by
  rcases open_slice Tryz.underlying23 h with ⟨hcs, hx⟩ | ⟨a', len, cap, m, n, D, Pl, hcs, hb, hl, hm, hmm, hx, hi⟩
  · simp only [List.cons.injEq, and_true] at hcs
    subst hcs
    exact ⟨[], ⟨none, 0, rfl, Nat.le_refl _, by decide, fun i p hp => by simp at hp⟩, by simp, by simp⟩
  · simp only [List.cons.injEq, and_true] at hcs
    subst hcs
    simp only [if_true] at hmm
    subst hmm
    subst hx
    simp only [DataW.weights, Tryz.underlying23, List.mem_cons, List.mem_append] at hs
    have key : ∀ i, i < len → ∃ p : EntP × Value, w.cells? 0 (a'.add (i * 5)) 5 = some (entC p.1 p.2) ∧ p.1.Fits ∧ Sized p.1 ∧ Rd w p.2 (p.1.data.map byteV) := by
      intro i hil
      obtain ⟨cs, h1, h2⟩ := hi i (by omega)
      rw [cellsOf38] at h1
      obtain ⟨p, rfl, k1, k2, k3⟩ := open_ent_cells h2 (fun n hn => hs n (Or.inr (Or.inl (wAll_mem (List.mem_map.2 ⟨i, List.mem_range.2 hil, rfl⟩) n hn))))
      exact ⟨p, h1, k1, k2, k3⟩
    have ex : ∃ F : Nat → EntP × Value, ∀ i, i < len → w.cells? 0 (a'.add (i * 5)) 5 = some (entC (F i).1 (F i).2) ∧ (F i).1.Fits ∧ Sized (F i).1 ∧ Rd w (F i).2 ((F i).1.data.map byteV) := by
      refine ⟨fun i => if h : i < len then (key i h).choose else (⟨⟨#[]⟩, 0, 0, ⟨#[]⟩, []⟩, .slice none 0 0), fun i hil => ?_⟩
      simp only [hil, dif_pos]
      exact (key i hil).choose_spec
    obtain ⟨F, hF⟩ := ex
    refine ⟨(List.range len).map fun i => (F i).1, ⟨some a', m, by simp, by simpa using hl, hm, fun i e he => ?_⟩, fun e he => ?_, fun e he => ?_⟩
    · rw [List.getElem?_map] at he
      obtain ⟨i', hi', rfl⟩ := Option.map_eq_some_iff.1 he
      have hil : i < len := by have := (List.getElem?_eq_some_iff.1 hi').1; simpa using this
      have hii : i' = i := by
        have := (List.getElem?_eq_some_iff.1 hi').2
        simpa using this.symm
      subst hii
      obtain ⟨-, -, hc⟩ := World.cells?_some (hF i' hil).1
      obtain ⟨g, off, spot⟩ := a'
      have hspot : spot = none := by
        obtain ⟨-, -, hc0⟩ := World.cells?_some (hF 0 (by omega)).1
        have := hc0 0 (by omega)
        have hsp := World.cell?_spot (this.trans (show (entC (F 0).1 (F 0).2)[0]? = some _ from rfl))
        simpa [Addr.add] using hsp
      subst hspot
      refine ⟨g, off, (F i').2, rfl, fun k u hu => ?_, (hF i' hil).2.2.2⟩
      have hk : k < 5 := (List.getElem?_eq_some_iff.1 hu).1
      have := hc k hk
      rw [Go.WideShapes.add_plain, Go.WideShapes.add_plain] at this
      rw [hu] at this
      exact this
    · obtain ⟨i, hi', rfl⟩ := List.mem_map.1 he
      exact (hF i (List.mem_range.1 hi')).2.1
    · obtain ⟨i, hi', rfl⟩ := List.mem_map.1 he
      exact (hF i (List.mem_range.1 hi')).2.2.1
set_option maxRecDepth 100000 in
set_option maxHeartbeats 4000000 in
theorem open_op_cells {fuel : Nat} {cs : List Value} {x : DataW H × List MemPlace} (h : DataW.trod enc Tryz.prog w 0 (fun _ => true) true fuel 44 cs = some x) (hs : ∀ n ∈ x.1.weights Tryz.prog 44, n ≤ reachBytes) :
    ∃ p : StP, cs = p.v.toList ∧ p.Arg w := by
  obtain ⟨xs, n, _, hx, hlen, hxl, hf⟩ := DataW.trod_struct Tryz.underlying44 h
  rw [cellsOf44] at hlen
  match cs, hlen, xs, hxl with
  | [c0, c1, c2, c3, c4], _, [y0, y1, y2, y3, y4], _ =>
    have g0 : DataW.trod enc Tryz.prog w 0 (fun _ => true) true n 3 [c0] = some y0 := by
      have g := hf 0 _ rfl
      change DataW.trod enc Tryz.prog w 0 (fun _ => true) true n 3 (List.take (Tryz.prog.cellsOf 3) _) = _ at g
      rw [cellsOf3] at g
      exact g
    have g1 : DataW.trod enc Tryz.prog w 0 (fun _ => true) true n 23 [c1] = some y1 := by
      have g := hf 1 _ rfl
      change DataW.trod enc Tryz.prog w 0 (fun _ => true) true n 23 (List.take (Tryz.prog.cellsOf 23) _) = _ at g
      rw [cellsOf23] at g
      exact g
    have g2 : DataW.trod enc Tryz.prog w 0 (fun _ => true) true n 23 [c2] = some y2 := by
      have g := hf 2 _ rfl
      change DataW.trod enc Tryz.prog w 0 (fun _ => true) true n 23 (List.take (Tryz.prog.cellsOf 23) _) = _ at g
      rw [cellsOf23] at g
      exact g
    have g3 : DataW.trod enc Tryz.prog w 0 (fun _ => true) true n 22 [c3] = some y3 := by
      have g := hf 3 _ rfl
      change DataW.trod enc Tryz.prog w 0 (fun _ => true) true n 22 (List.take (Tryz.prog.cellsOf 22) _) = _ at g
      rw [cellsOf22] at g
      exact g
    have g4 : DataW.trod enc Tryz.prog w 0 (fun _ => true) true n 22 [c4] = some y4 := by
      have g := hf 4 _ rfl
      change DataW.trod enc Tryz.prog w 0 (fun _ => true) true n 22 (List.take (Tryz.prog.cellsOf 22) _) = _ at g
      rw [cellsOf22] at g
      exact g
    have hw : (∀ k ∈ y1.1.weights Tryz.prog 23, k ≤ reachBytes) ∧ (∀ k ∈ y2.1.weights Tryz.prog 23, k ≤ reachBytes) ∧ (∀ k ∈ y3.1.weights Tryz.prog 22, k ≤ reachBytes) ∧ (∀ k ∈ y4.1.weights Tryz.prog 22, k ≤ reachBytes) := by
      rw [hx] at hs
      simp only [List.map_cons, List.map_nil, DataW.weights, Tryz.underlying44, DataW.weightsEach, List.append_nil, List.mem_append] at hs
      refine ⟨fun k hk => hs k (by simp [hk]), fun k hk => hs k (by simp [hk]), fun k hk => hs k (by simp [hk]), fun k hk => hs k (by simp [hk])⟩
    clear hs hx hf
    obtain ⟨w1, w2, w3, w4⟩ := hw
    obtain ⟨n0, e0, rfl, _⟩ := DataW.trod_int Tryz.underlying3 g0
    obtain ⟨L, hL, hLf, hLs⟩ := open_ents_cells g1 w1
    obtain ⟨M, hM, hMf, hMs⟩ := open_ents_cells g2 w2
    obtain ⟨B, hB, m3, hm3, hlm3⟩ := open_bytes_cells g3
    obtain ⟨C, hC, m4, hm4, hlm4⟩ := open_bytes_cells g4
    have hb3 : B.length ≤ 140737488355328 := by
      have : m3 ≤ reachBytes := by
        rcases List.mem_append.1 hm3 with h | h
        · exact w3 m3 h
        · simp at h
          omega
      unfold reachBytes at this
      omega
    have hb4 : C.length ≤ 140737488355328 := by
      have : m4 ≤ reachBytes := by
        rcases List.mem_append.1 hm4 with h | h
        · exact w4 m4 h
        · simp at h
          omega
      unfold reachBytes at this
      omega
    refine ⟨⟨n0, c1, c2, c3, c4, L, M, B, C⟩, ?_, ⟨⟨hL, hM, hB, hC⟩, ⟨hb3, hb4, hLs, hMs⟩, hLf, hMf⟩⟩
    simp only [List.cons.injEq, and_true] at e0
    rw [e0]
    rfl
set_option maxRecDepth 100000 in
/-- A script as an argument. -/
theorem open_script {r : Reach} {b0 : Nat} {v : Value} {d : DataW H} {ps : List MemPlace} (hv : Value.okWide Tryz.prog w r b0 34 v) (h : DataW.Trod enc Tryz.prog w 0 (fun _ => true) true 34 v d ps)
    {ts : List TypeId} {ds : List (DataW H)} (hsz : (DataW.weightsEach Tryz.prog ts ds).all (· ≤ reachBytes) = true) {j : Nat} (ht : ts[j]? = some 34) (hd : ds[j]? = some d) :
    ∃ P : List StP, Scr w v P ∧ ∀ p ∈ P, p.Arg w := by
  obtain ⟨a, len, cap, rfl⟩ := okWide_slice Tryz.underlying34 hv
  obtain ⟨fuel, hf⟩ := h
  have hw : ∀ n ∈ d.weights Tryz.prog 34, n ≤ reachBytes := fun n hn => by
    have := List.all_eq_true.1 hsz _ (DataW.weights_mem_each ht hd n hn)
    simpa using this
  rcases open_slice Tryz.underlying34 hf with ⟨hcs, hx⟩ | ⟨a', len', cap', m, n, D, Pl, hcs, hb, hl, hm, hmm, hx, hi⟩
  · simp only [Value.cells, List.cons.injEq, and_true, Value.slice.injEq] at hcs
    obtain ⟨rfl, rfl, rfl⟩ := hcs
    exact ⟨[], ⟨none, 0, rfl, Nat.le_refl _, by decide, fun i p hp => by simp at hp⟩, by simp⟩
  · simp only [Value.cells, List.cons.injEq, and_true, Value.slice.injEq] at hcs
    obtain ⟨rfl, rfl, rfl⟩ := hcs
    simp only [if_true] at hmm
    subst hmm
    simp only [Prod.mk.injEq] at hx
    obtain ⟨hx, -⟩ := hx
    rw [hx] at hw
    simp only [DataW.weights, Tryz.underlying34, List.mem_cons, List.mem_append] at hw
    have key : ∀ i, i < len → ∃ p : StP, w.cells? 0 (a'.add (i * 5)) 5 = some p.v.toList ∧ p.Arg w := by
      intro i hil
      obtain ⟨cs, h1, h2⟩ := hi i (by omega)
      rw [cellsOf44] at h1
      obtain ⟨p, rfl, hp⟩ := open_op_cells h2 (fun k hk => hw k (Or.inr (Or.inl (wAll_mem (List.mem_map.2 ⟨i, List.mem_range.2 hil, rfl⟩) k hk))))
      exact ⟨p, h1, hp⟩
    have ex : ∃ F : Nat → StP, ∀ i, i < len → w.cells? 0 (a'.add (i * 5)) 5 = some (F i).v.toList ∧ (F i).Arg w := by
      refine ⟨fun i => if h : i < len then (key i h).choose else ⟨0, .slice none 0 0, .slice none 0 0, .slice none 0 0, .slice none 0 0, [], [], [], []⟩, fun i hil => ?_⟩
      simp only [hil, dif_pos]
      exact (key i hil).choose_spec
    obtain ⟨F, hF⟩ := ex
    refine ⟨(List.range len).map F, ⟨some a', m, by simp, by simpa using hl, hm, fun i p hp => ?_⟩, fun p hp => ?_⟩
    · rw [List.getElem?_map] at hp
      obtain ⟨i', hi', rfl⟩ := Option.map_eq_some_iff.1 hp
      have hil : i < len := by have := (List.getElem?_eq_some_iff.1 hi').1; simpa using this
      have hii : i' = i := by
        have := (List.getElem?_eq_some_iff.1 hi').2
        simpa using this.symm
      subst hii
      obtain ⟨-, -, hc⟩ := World.cells?_some (hF i' hil).1
      obtain ⟨g, off, spot⟩ := a'
      have hspot : spot = none := by
        obtain ⟨-, -, hc0⟩ := World.cells?_some (hF 0 (by omega)).1
        have := hc0 0 (by omega)
        have hsp := World.cell?_spot (this.trans (show (F 0).v.toList[0]? = some _ from rfl))
        simpa [Addr.add] using hsp
      subst hspot
      refine ⟨⟨g, off, rfl, fun j u hu => ?_⟩, (hF i' hil).2.inn⟩
      have hj : j < 5 := by
        have := (List.getElem?_eq_some_iff.1 hu).1
        rwa [show (F i').v.toList.length = 5 from rfl] at this
      have := hc j hj
      rw [hu, Go.WideShapes.add_plain, Go.WideShapes.add_plain] at this
      exact this
    · obtain ⟨i, hi', rfl⟩ := List.mem_map.1 hp
      exact (hF i (List.mem_range.1 hi')).2
end
end Go.Proofs.YtmcekhgmmocajaaGreatDoor
