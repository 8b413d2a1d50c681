/- takes: goes on with a client's request. (Printed by wip/bin/genkc.py.) -/
import Derived.Test.YtlgoeipgmjcboaaGreatDoorKb
namespace Go.Proofs.YtlgoeipgmjcboaaGreatDoor
open Go.RowKit Me
section
variable {w0 w w' : World} {F0 K : List Nat} {r n b2 : Nat} {R R' : RelP} {G G' : Gh} {L : List OutV} {m : MsgP} {vn vq vd : Value}
theorem form_ok (h : RelP.form m = 0) : answerK m.kind ≠ none ∧ (m.kind = 100 ↔ m.tag = 65535) ∧ (m.kind = 100 → 512 ≤ m.msize) := by
  unfold RelP.form at h
  split at h
  · cases h
  · rename_i h1
    split at h
    · cases h
    · split at h
      · cases h
      · rename_i h3
        split at h
        · cases h
        · rename_i h4
          refine ⟨h1, ?_, fun hk => ?_⟩
          · have h3' := Decidable.not_not.1 h3
            exact decide_eq_decide.1 h3'
          · exact Nat.le_of_not_lt fun h5 => h4 ⟨hk, h5⟩
theorem form_word (h : RelP.form m ≠ 0) : isWord (RelP.form m) := by
  unfold RelP.form at h ⊢
  unfold isWord
  split
  · simp
  · split
    · simp
    · split
      · simp
      · split
        · simp
        · rename_i h1 h2 h3 h4
          simp [h1, h2, h3, h4] at h
theorem tk_form (h : RelP.form m ≠ 0) : R.takes n m = (R, [(n, errM m.tag (RelP.form m))]) := by
  unfold RelP.takes
  rw [if_pos h]
  rfl
theorem tk_ver (h : RelP.form m = 0) (hk : m.kind = 100) : R.takes n m = R.ends n true m.version m.msize := by
  unfold RelP.takes
  rw [if_neg (by simp [h]), if_pos hk]
theorem tk_121 (h : RelP.form m = 0) (hk : m.kind ≠ 100) (hz : (R.cli n).msize = 0) : R.takes n m = (R, [(n, errM m.tag 121)]) := by
  unfold RelP.takes
  rw [if_neg (by simp [h]), if_neg hk, if_pos hz]
  rfl
theorem tk_140 (h : RelP.form m = 0) (hk : m.kind ≠ 100) (hz : (R.cli n).msize ≠ 0) (hu : (R.under n m.tag).isSome = true) : R.takes n m = (R, [(n, errM m.tag 140)]) := by
  unfold RelP.takes
  rw [if_neg (by simp [h]), if_neg hk, if_neg hz, if_pos hu]
  rfl
theorem tk_109 (h : RelP.form m = 0) (hk : m.kind = 108) (hz : (R.cli n).msize ≠ 0) (hu : R.under n m.tag = none) (ho : R.under n m.oldtag = none) : R.takes n m = (R, [(n, { MsgP.zero with kind := 109, tag := m.tag })]) := by
  unfold RelP.takes
  rw [if_neg (by simp [h]), if_neg (by omega), if_neg hz, if_neg (by simp [hu]), if_pos ⟨hk, ho⟩]
theorem tk_141 (h : RelP.form m = 0) (hk : m.kind ≠ 100) (hz : (R.cli n).msize ≠ 0) (hu : R.under n m.tag = none) (ho : ¬ (m.kind = 108 ∧ R.under n m.oldtag = none)) (ht : R.tag = none) : R.takes n m = (R, [(n, errM m.tag 141)]) := by
  unfold RelP.takes
  rw [if_neg (by simp [h]), if_neg hk, if_neg hz, if_neg (by simp [hu]), if_neg ho, if_pos ht]
  rfl
theorem tk_flush {p : ReqP} {t : Nat} (h : RelP.form m = 0) (hk : m.kind = 108) (hz : (R.cli n).msize ≠ 0) (hu : R.under n m.tag = none) (ho : R.under n m.oldtag = some p) (ht : R.tag = some t) : R.takes n m = (R.put (flushQ n m.tag p.id) t, [(0, { m with oldtag := p.num, tag := t })]) := by
  unfold RelP.takes
  rw [if_neg (by simp [h]), if_neg (by omega), if_neg hz, if_neg (by simp [hu]), if_neg (by simp [ho]), if_neg (by simp [ht]), if_pos hk, ho]
  exact sends_put ht
theorem tk_pass (h : RelP.form m = 0) (hk : m.kind ≠ 100) (hk8 : m.kind ≠ 108) (hz : (R.cli n).msize ≠ 0) (hu : R.under n m.tag = none) {t : Nat} (ht : R.tag = some t) : R.takes n m = R.passP n m := by
  unfold RelP.takes
  rw [if_neg (by simp [h]), if_neg hk, if_neg hz, if_neg (by simp [hu]), if_neg (by simp [hk8]), if_neg (by simp [ht]), if_neg hk8]
  rfl
/-- What stands in the course of takes. -/
structure Tk (w0 : World) (F0 K : List Nat) (r : Nat) (R : RelP) (G : Gh) (L : List OutV) (b2 : Nat) (m : MsgP) (vn vq vd : Value) (w : World) : Prop where
  st : St w0 F0 (b2 :: (listB vn vq vd ++ K)) r R R.used G L w
  row : w.heap[b2]? = some (.cells (msgC m vn vq vd).toArray 47 (0, 0))
  own : OwnM w 0 m vn vq vd
theorem Tk.still (h : Tk w0 F0 K r R G L b2 m vn vq vd w) (hm : Mods [] w w') : Tk w0 F0 K r R G L b2 m vn vq vd w' := ⟨h.st.still hm, hm.heap h.row (by simp), h.own.mods hm⟩
theorem Tk.cell (h : Tk w0 F0 K r R G L b2 m vn vq vd w) (i : Nat) : w.cell? ⟨b2, i, none⟩ = (msgC m vn vq vd)[i]? := by
  rw [cell_of_row _ _ _ _ _ _ h.row, List.getElem?_toArray]
theorem Tk.rel (h : Tk w0 F0 K r R G L b2 m vn vq vd w) : ∃ vo, IsRel w r R R.used G vo := by
  obtain ⟨vo, h1, -⟩ := h.st.ex
  exact ⟨vo, h1⟩
theorem Tk.rest (h : Tk w0 F0 K r R G L b2 m vn vq vd w) : St w0 F0 K r R R.used G L w := h.st.keep (fun k hk => by simp [hk])
theorem Tk.lists (h : Tk w0 F0 K r R G L b2 m vn vq vd w) : St w0 F0 (listB vn vq vd ++ K) r R R.used G L w := h.st.keep (fun _ hk => List.mem_cons_of_mem _ hk)
theorem Went.outs {x : RelP × List OutP} (h : Went w0 F0 K r x G L w) : Outs w0 F0 K r x L w := by
  obtain ⟨L', G', -, h1, h2⟩ := h
  exact ⟨L', G', h1, h2⟩
theorem built47f (tag : Nat) : Tryz.prog.built 47 [(0, .int .u8 109), (1, .int .u16 (tag : Int))] = some (msgC { MsgP.zero with kind := 109, tag := tag } nilS nilS nilS).toArray := by kernel_rfl
set_option maxRecDepth 100000 in
set_option maxHeartbeats 16000000 in
theorem takes_any (h : St w0 F0 (listB vn vq vd ++ K) r R R.used G L w) (he : Env w0 F0) (hm : OwnM w 0 m vn vq vd) (hsm : SmallM m) (hT : Lib.Utf8Tabs 4 5 w) (hn : 1 ≤ n ∧ n ≤ R.clients.length) (hc : (R.cli n).ending = false) (hL : L.length ≤ 900) :
    Calls Tryz.prog 29 #[.pointer (some ⟨r, 0, none⟩), .int .i64 (n : Int), .pointer (some ⟨G.cb (n - 1), 0, none⟩), .agg (msgC m vn vq vd).toArray] w fun e w' => e = .returned (.tuple #[]) ∧ Outs w0 F0 K r (R.takes n m) L w' := by
  have hmA := (Mods.refl [] w).alloc (.cells (msgC m vn vq vd).toArray 47)
  have hTk : Tk w0 F0 K r R G L w.heap.size m vn vq vd (w.alloc (.cells (msgC m vn vq vd).toArray 47)) := ⟨h.alloc _, heap_alloc_new w _, hm.mods hmA⟩
  have HMF := Lib.hid (malformed_any m hsm (w.alloc (.cells (msgC m vn vq vd).toArray 47)) (hm.mods hmA).reads (tabs_mods hmA hT))
  have hnew := h.mods.size
  have HNEW : Hid (w0.heap.size ≤ w.heap.size) := Lib.hid hnew
  generalize hw1 : w.alloc (.cells (msgC m vn vq vd).toArray 47) = w1 at *
  have HKB : Hid (∀ k ∈ listB vn vq vd ++ K, k ∉ [w.heap.size]) := Lib.hid (fun k hk hk' => by
    obtain ⟨_, _, _, _, h4⟩ := h.ex
    have := (h4 k hk).1
    simp at hk'
    omega)
  generalize hb2 : w.heap.size = b2 at *
  have HTK := Lib.hid hTk
  have HROW1 := Lib.hid hTk.row
  have HIN := Lib.hid (info47 m vn vq vd)
  have HE := Lib.hid he
  have HSM := Lib.hid hsm
  have HN := Lib.hid hn
  have HC := Lib.hid hc
  have HL := Lib.hid hL
  have HL1 : Hid (L.length ≤ 1000) := Lib.hid (by omega)
  clear h he hm hsm hT hn hc hL hmA hTk hnew
  generalize hmc : (msgC m vn vq vd).toArray = mc at *
  go_enter Tryz.func29, Tryz.ntmps29
  go_wp2_with (refine wpList_load_row rfl 47 _ rfl b2 rfl 47 mc (0, 0) _ HROW1.out Tryz.underlying47 rfl HIN.out ?_)
  refine HMF.out.mono ?_
  rintro e w2 ⟨rfl, hm2⟩
  have HT2 := Lib.hid (HTK.out.still hm2)
  clear hm2
  by_cases hf : RelP.form m = 0
  · have HF := Lib.hid hf
    have bf : ((RelP.form m : Int) != 0) = false := by rw [hf]; rfl
    have k0 : w2.cell? ⟨b2, 0, none⟩ = some (.int .u8 (m.kind : Int)) := HT2.out.cell 0
    clear hf
    by_cases hk : m.kind = 100
    · have b100 : ((m.kind : Int) == 100) = true := by rw [hk]; rfl
      have HK := Lib.hid hk
      have hst : St w0 F0 (listB vn vq vd ++ K) r R R.used (G.grow [b2]) L w2 := St.grow (X := [b2]) HT2.out.st (fun k hk => by have := HNEW.out; simp at hk; omega) HKB.out
      obtain ⟨vo2, hr2⟩ := HT2.out.rel
      have hcl := hr2.wf.cli _ (List.mem_of_getElem? (cli_at HN.out))
      have hend := end_any (K := K) (p := some ⟨b2, 0, none⟩) (waits := true) (ver := m.version) (vsize := m.msize) (hst.keep (fun k hk => by simp [hk])) HE.out HN.out ⟨hcl.1, hcl.2.1, HSM.out.msize, fun _ => (form_ok HF.out).2.2 hk, HSM.out.texts _ (by simp)⟩ (fun e => by cases e) (fun _ => ⟨b2, m, vn, vq, vd, rfl, by simp [Gh.grow], HT2.out.row, (form_ok HF.out).2.1.1 hk, rfl, rfl⟩) HL.out
      have HEND := Lib.hid hend
      have HY := Lib.hid (tk_ver (R := R) (n := n) HF.out hk)
      clear hk hst hr2 hcl hend
      change Hid (Calls Tryz.prog 51 #[.pointer (some ⟨r, 0, none⟩), .int .i64 (n : Int), .pointer (some ⟨G.cb (n - 1), 0, none⟩), .pointer (some ⟨b2, 0, none⟩)] w2 _) at HEND
      go_wp2_with fail
      refine HEND.out.mono ?_
      rintro e w3 ⟨rfl, hw⟩
      have HW := Lib.hid hw
      clear hw
      go_wp2_with fail
      first | go_end0 | refine bodyPost_ret (results_none rfl _ _ _) rfl ?_
      refine ⟨rfl, ?_⟩
      rw [HY.out]
      exact HW.out.outs
    · have b100 : ((m.kind : Int) == 100) = false := by simpa using (by omega : ¬ (m.kind : Int) = 100)
      have HK := Lib.hid hk
      clear hk
      by_cases hk8 : m.kind = 108
      · have b108 : ((m.kind : Int) == 108) = true := by rw [hk8]; rfl
        have HK8 := Lib.hid hk8
        clear hk8
        cases eN : R.under n m.oldtag with
        | none =>
          have HNM := Lib.hid eN
          clear eN
          cases eT : R.tag with
          | none =>
            have HTG := Lib.hid eT
            clear eT
            obtain ⟨vo2, hr2⟩ := HT2.out.rel
            have htg := tag_any hr2
            have hof := of_any hr2 n m.oldtag
            rw [HTG.out] at htg
            simp only [Option.isSome_none, Option.getD_none] at htg
            rw [HNM.out] at hof
            simp only [Option.map_none] at hof
            have k8 : w2.cell? ⟨b2, 8, none⟩ = some (.int .u16 (m.oldtag : Int)) := HT2.out.cell 8
            have HTA := Lib.hid htg
            have HOF := Lib.hid hof
            clear htg hof hr2
            go_wp2_with fail
            refine HTA.out.mono ?_
            rintro e w2' ⟨rfl, rfl⟩
            go_wp2_with fail
            refine HOF.out.mono ?_
            rintro e w3 ⟨rfl, hm3⟩
            have HT3 := Lib.hid (HT2.out.still hm3)
            have c0 : w3.cell? ⟨G.cb (n - 1), 0, none⟩ = some (.int .u32 ((R.cli n).msize : Int)) := HT3.out.rest.msize HN.out
            have k1 : w3.cell? ⟨b2, 1, none⟩ = some (.int .u16 (m.tag : Int)) := HT3.out.cell 1
            clear hm3
            by_cases hz : (R.cli n).msize = 0
            · have bz : (((R.cli n).msize : Int) == 0) = true := by rw [hz]; rfl
              have HZ := Lib.hid hz
              clear hz
              have HY := Lib.hid (tk_121 (R := R) (n := n) HF.out HK.out HZ.out)
              have HROW := Lib.hid HT3.out.row
              have HREF := Lib.hid (refuse_any HT3.out.rest n m 121 (by unfold isWord; simp) (vn := vn) (vq := vq) (vd := vd) HL1.out)
              rw [hmc] at HROW HREF
              go_wp2_with (refine wpList_load_row rfl 47 _ rfl b2 rfl 47 mc (0, 0) _ HROW.out Tryz.underlying47 rfl HIN.out ?_)
              refine HREF.out.mono ?_
              rintro e wz ⟨rfl, o, o1, o2, o3, -⟩
              have I1 := Lib.hid o1
              have I2 := Lib.hid o2
              have I3 := Lib.hid o3
              clear o1 o2 o3
              go_wp2_with fail
              first | go_end0 | refine bodyPost_ret (results_none rfl _ _ _) rfl ?_
              exact ⟨rfl, outs_one HY.out I1.out I2.out I3.out⟩
            · have bz : (((R.cli n).msize : Int) == 0) = false := by simpa using hz
              have HZ := Lib.hid hz
              clear hz
              obtain ⟨vo3, hr3⟩ := HT3.out.rel
              have hof := of_any hr3 n m.tag
              cases eU : R.under n m.tag with
              | some u =>
                rw [eU] at hof
                simp only [Option.map_some] at hof
                have HU := Lib.hid eU
                have HOG := Lib.hid hof
                clear hof hr3 eU
                go_wp2_with fail
                refine HOG.out.mono ?_
                rintro e w4 ⟨rfl, hm4⟩
                have HT4 := Lib.hid (HT3.out.still hm4)
                clear hm4
                have HY := Lib.hid (tk_140 (R := R) (n := n) HF.out HK.out HZ.out (by rw [HU.out]; rfl))
                have HROW := Lib.hid HT4.out.row
                have HREF := Lib.hid (refuse_any HT4.out.rest n m 140 (by unfold isWord; simp) (vn := vn) (vq := vq) (vd := vd) HL1.out)
                rw [hmc] at HROW HREF
                go_wp2_with (refine wpList_load_row rfl 47 _ rfl b2 rfl 47 mc (0, 0) _ HROW.out Tryz.underlying47 rfl HIN.out ?_)
                refine HREF.out.mono ?_
                rintro e wz ⟨rfl, o, o1, o2, o3, -⟩
                have I1 := Lib.hid o1
                have I2 := Lib.hid o2
                have I3 := Lib.hid o3
                clear o1 o2 o3
                go_wp2_with fail
                first | go_end0 | refine bodyPost_ret (results_none rfl _ _ _) rfl ?_
                exact ⟨rfl, outs_one HY.out I1.out I2.out I3.out⟩
              | none =>
                rw [eU] at hof
                simp only [Option.map_none] at hof
                have HU := Lib.hid eU
                have HOG := Lib.hid hof
                have HAS : Hid (R.Asks n m) := Lib.hid ⟨HN.out, (form_ok HF.out).1, ⟨((hr3.wf.cli _ (List.mem_of_getElem? (cli_at HN.out))).1).resolve_left HZ.out, HC.out⟩, eU, HSM.out.toFits⟩
                clear hof hr3 eU
                go_wp2_with fail
                refine HOG.out.mono ?_
                rintro e w4 ⟨rfl, hm4⟩
                have HT4 := Lib.hid (HT3.out.still hm4)
                clear hm4
                have k1' : w4.cell? ⟨b2, 1, none⟩ = some (.int .u16 (m.tag : Int)) := HT4.out.cell 1
                have HBF := Lib.hid (built47f m.tag)
                have HY := Lib.hid (tk_109 (R := R) (n := n) HF.out HK8.out HZ.out HU.out HNM.out)
                have HTL := Lib.hid (tells_any HT4.out.rest n { MsgP.zero with kind := 109, tag := m.tag } (by simp [MsgP.zero]) (nil_msgR _ _ rfl rfl rfl) nil_plain HL1.out)
                generalize hm9 : (msgC { MsgP.zero with kind := 109, tag := m.tag } nilS nilS nilS).toArray = m9 at *
                clear hm9
                go_wp2_with (refine wpList_built rfl 47 _ rfl m9 (by simp only [List.map_toArray, List.map_cons, List.map_nil]; exact HBF.out) ?_)
                refine HTL.out.mono ?_
                rintro e wz ⟨rfl, o, o1, o2, o3, -⟩
                have I1 := Lib.hid o1
                have I2 := Lib.hid o2
                have I3 := Lib.hid o3
                clear o1 o2 o3
                go_wp2_with fail
                first | go_end0 | refine bodyPost_ret (results_none rfl _ _ _) rfl ?_
                exact ⟨rfl, outs_one HY.out I1.out I2.out I3.out⟩
          | some t =>
            have HTG := Lib.hid eT
            clear eT
            obtain ⟨vo2, hr2⟩ := HT2.out.rel
            have htg := tag_any hr2
            have hof := of_any hr2 n m.oldtag
            rw [HTG.out] at htg
            simp only [Option.isSome_some, Option.getD_some] at htg
            rw [HNM.out] at hof
            simp only [Option.map_none] at hof
            have k8 : w2.cell? ⟨b2, 8, none⟩ = some (.int .u16 (m.oldtag : Int)) := HT2.out.cell 8
            have HTA := Lib.hid htg
            have HOF := Lib.hid hof
            clear htg hof hr2
            go_wp2_with fail
            refine HTA.out.mono ?_
            rintro e w2' ⟨rfl, rfl⟩
            go_wp2_with fail
            refine HOF.out.mono ?_
            rintro e w3 ⟨rfl, hm3⟩
            have HT3 := Lib.hid (HT2.out.still hm3)
            have c0 : w3.cell? ⟨G.cb (n - 1), 0, none⟩ = some (.int .u32 ((R.cli n).msize : Int)) := HT3.out.rest.msize HN.out
            have k1 : w3.cell? ⟨b2, 1, none⟩ = some (.int .u16 (m.tag : Int)) := HT3.out.cell 1
            clear hm3
            by_cases hz : (R.cli n).msize = 0
            · have bz : (((R.cli n).msize : Int) == 0) = true := by rw [hz]; rfl
              have HZ := Lib.hid hz
              clear hz
              have HY := Lib.hid (tk_121 (R := R) (n := n) HF.out HK.out HZ.out)
              have HROW := Lib.hid HT3.out.row
              have HREF := Lib.hid (refuse_any HT3.out.rest n m 121 (by unfold isWord; simp) (vn := vn) (vq := vq) (vd := vd) HL1.out)
              rw [hmc] at HROW HREF
              go_wp2_with (refine wpList_load_row rfl 47 _ rfl b2 rfl 47 mc (0, 0) _ HROW.out Tryz.underlying47 rfl HIN.out ?_)
              refine HREF.out.mono ?_
              rintro e wz ⟨rfl, o, o1, o2, o3, -⟩
              have I1 := Lib.hid o1
              have I2 := Lib.hid o2
              have I3 := Lib.hid o3
              clear o1 o2 o3
              go_wp2_with fail
              first | go_end0 | refine bodyPost_ret (results_none rfl _ _ _) rfl ?_
              exact ⟨rfl, outs_one HY.out I1.out I2.out I3.out⟩
            · have bz : (((R.cli n).msize : Int) == 0) = false := by simpa using hz
              have HZ := Lib.hid hz
              clear hz
              obtain ⟨vo3, hr3⟩ := HT3.out.rel
              have hof := of_any hr3 n m.tag
              cases eU : R.under n m.tag with
              | some u =>
                rw [eU] at hof
                simp only [Option.map_some] at hof
                have HU := Lib.hid eU
                have HOG := Lib.hid hof
                clear hof hr3 eU
                go_wp2_with fail
                refine HOG.out.mono ?_
                rintro e w4 ⟨rfl, hm4⟩
                have HT4 := Lib.hid (HT3.out.still hm4)
                clear hm4
                have HY := Lib.hid (tk_140 (R := R) (n := n) HF.out HK.out HZ.out (by rw [HU.out]; rfl))
                have HROW := Lib.hid HT4.out.row
                have HREF := Lib.hid (refuse_any HT4.out.rest n m 140 (by unfold isWord; simp) (vn := vn) (vq := vq) (vd := vd) HL1.out)
                rw [hmc] at HROW HREF
                go_wp2_with (refine wpList_load_row rfl 47 _ rfl b2 rfl 47 mc (0, 0) _ HROW.out Tryz.underlying47 rfl HIN.out ?_)
                refine HREF.out.mono ?_
                rintro e wz ⟨rfl, o, o1, o2, o3, -⟩
                have I1 := Lib.hid o1
                have I2 := Lib.hid o2
                have I3 := Lib.hid o3
                clear o1 o2 o3
                go_wp2_with fail
                first | go_end0 | refine bodyPost_ret (results_none rfl _ _ _) rfl ?_
                exact ⟨rfl, outs_one HY.out I1.out I2.out I3.out⟩
              | none =>
                rw [eU] at hof
                simp only [Option.map_none] at hof
                have HU := Lib.hid eU
                have HOG := Lib.hid hof
                have HAS : Hid (R.Asks n m) := Lib.hid ⟨HN.out, (form_ok HF.out).1, ⟨((hr3.wf.cli _ (List.mem_of_getElem? (cli_at HN.out))).1).resolve_left HZ.out, HC.out⟩, eU, HSM.out.toFits⟩
                clear hof hr3 eU
                go_wp2_with fail
                refine HOG.out.mono ?_
                rintro e w4 ⟨rfl, hm4⟩
                have HT4 := Lib.hid (HT3.out.still hm4)
                clear hm4
                have k1' : w4.cell? ⟨b2, 1, none⟩ = some (.int .u16 (m.tag : Int)) := HT4.out.cell 1
                have HBF := Lib.hid (built47f m.tag)
                have HY := Lib.hid (tk_109 (R := R) (n := n) HF.out HK8.out HZ.out HU.out HNM.out)
                have HTL := Lib.hid (tells_any HT4.out.rest n { MsgP.zero with kind := 109, tag := m.tag } (by simp [MsgP.zero]) (nil_msgR _ _ rfl rfl rfl) nil_plain HL1.out)
                generalize hm9 : (msgC { MsgP.zero with kind := 109, tag := m.tag } nilS nilS nilS).toArray = m9 at *
                clear hm9
                go_wp2_with (refine wpList_built rfl 47 _ rfl m9 (by simp only [List.map_toArray, List.map_cons, List.map_nil]; exact HBF.out) ?_)
                refine HTL.out.mono ?_
                rintro e wz ⟨rfl, o, o1, o2, o3, -⟩
                have I1 := Lib.hid o1
                have I2 := Lib.hid o2
                have I3 := Lib.hid o3
                clear o1 o2 o3
                go_wp2_with fail
                first | go_end0 | refine bodyPost_ret (results_none rfl _ _ _) rfl ?_
                exact ⟨rfl, outs_one HY.out I1.out I2.out I3.out⟩
        | some p =>
          have HNM := Lib.hid eN
          clear eN
          cases eT : R.tag with
          | none =>
            have HTG := Lib.hid eT
            clear eT
            obtain ⟨vo2, hr2⟩ := HT2.out.rel
            have htg := tag_any hr2
            have hof := of_any hr2 n m.oldtag
            rw [HTG.out] at htg
            simp only [Option.isSome_none, Option.getD_none] at htg
            rw [HNM.out] at hof
            simp only [Option.map_some] at hof
            have k8 : w2.cell? ⟨b2, 8, none⟩ = some (.int .u16 (m.oldtag : Int)) := HT2.out.cell 8
            have HTA := Lib.hid htg
            have HOF := Lib.hid hof
            clear htg hof hr2
            go_wp2_with fail
            refine HTA.out.mono ?_
            rintro e w2' ⟨rfl, rfl⟩
            go_wp2_with fail
            refine HOF.out.mono ?_
            rintro e w3 ⟨rfl, hm3⟩
            have HT3 := Lib.hid (HT2.out.still hm3)
            have c0 : w3.cell? ⟨G.cb (n - 1), 0, none⟩ = some (.int .u32 ((R.cli n).msize : Int)) := HT3.out.rest.msize HN.out
            have k1 : w3.cell? ⟨b2, 1, none⟩ = some (.int .u16 (m.tag : Int)) := HT3.out.cell 1
            clear hm3
            by_cases hz : (R.cli n).msize = 0
            · have bz : (((R.cli n).msize : Int) == 0) = true := by rw [hz]; rfl
              have HZ := Lib.hid hz
              clear hz
              have HY := Lib.hid (tk_121 (R := R) (n := n) HF.out HK.out HZ.out)
              have HROW := Lib.hid HT3.out.row
              have HREF := Lib.hid (refuse_any HT3.out.rest n m 121 (by unfold isWord; simp) (vn := vn) (vq := vq) (vd := vd) HL1.out)
              rw [hmc] at HROW HREF
              go_wp2_with (refine wpList_load_row rfl 47 _ rfl b2 rfl 47 mc (0, 0) _ HROW.out Tryz.underlying47 rfl HIN.out ?_)
              refine HREF.out.mono ?_
              rintro e wz ⟨rfl, o, o1, o2, o3, -⟩
              have I1 := Lib.hid o1
              have I2 := Lib.hid o2
              have I3 := Lib.hid o3
              clear o1 o2 o3
              go_wp2_with fail
              first | go_end0 | refine bodyPost_ret (results_none rfl _ _ _) rfl ?_
              exact ⟨rfl, outs_one HY.out I1.out I2.out I3.out⟩
            · have bz : (((R.cli n).msize : Int) == 0) = false := by simpa using hz
              have HZ := Lib.hid hz
              clear hz
              obtain ⟨vo3, hr3⟩ := HT3.out.rel
              have hof := of_any hr3 n m.tag
              cases eU : R.under n m.tag with
              | some u =>
                rw [eU] at hof
                simp only [Option.map_some] at hof
                have HU := Lib.hid eU
                have HOG := Lib.hid hof
                clear hof hr3 eU
                go_wp2_with fail
                refine HOG.out.mono ?_
                rintro e w4 ⟨rfl, hm4⟩
                have HT4 := Lib.hid (HT3.out.still hm4)
                clear hm4
                have HY := Lib.hid (tk_140 (R := R) (n := n) HF.out HK.out HZ.out (by rw [HU.out]; rfl))
                have HROW := Lib.hid HT4.out.row
                have HREF := Lib.hid (refuse_any HT4.out.rest n m 140 (by unfold isWord; simp) (vn := vn) (vq := vq) (vd := vd) HL1.out)
                rw [hmc] at HROW HREF
                go_wp2_with (refine wpList_load_row rfl 47 _ rfl b2 rfl 47 mc (0, 0) _ HROW.out Tryz.underlying47 rfl HIN.out ?_)
                refine HREF.out.mono ?_
                rintro e wz ⟨rfl, o, o1, o2, o3, -⟩
                have I1 := Lib.hid o1
                have I2 := Lib.hid o2
                have I3 := Lib.hid o3
                clear o1 o2 o3
                go_wp2_with fail
                first | go_end0 | refine bodyPost_ret (results_none rfl _ _ _) rfl ?_
                exact ⟨rfl, outs_one HY.out I1.out I2.out I3.out⟩
              | none =>
                rw [eU] at hof
                simp only [Option.map_none] at hof
                have HU := Lib.hid eU
                have HOG := Lib.hid hof
                have HAS : Hid (R.Asks n m) := Lib.hid ⟨HN.out, (form_ok HF.out).1, ⟨((hr3.wf.cli _ (List.mem_of_getElem? (cli_at HN.out))).1).resolve_left HZ.out, HC.out⟩, eU, HSM.out.toFits⟩
                clear hof hr3 eU
                go_wp2_with fail
                refine HOG.out.mono ?_
                rintro e w4 ⟨rfl, hm4⟩
                have HT4 := Lib.hid (HT3.out.still hm4)
                clear hm4
                have HY := Lib.hid (tk_141 (R := R) (n := n) HF.out HK.out HZ.out HU.out (by rw [HNM.out]; simp) HTG.out)
                have HROW := Lib.hid HT4.out.row
                have HREF := Lib.hid (refuse_any HT4.out.rest n m 141 (by unfold isWord; simp) (vn := vn) (vq := vq) (vd := vd) HL1.out)
                rw [hmc] at HROW HREF
                go_wp2_with (refine wpList_load_row rfl 47 _ rfl b2 rfl 47 mc (0, 0) _ HROW.out Tryz.underlying47 rfl HIN.out ?_)
                refine HREF.out.mono ?_
                rintro e wz ⟨rfl, o, o1, o2, o3, -⟩
                have I1 := Lib.hid o1
                have I2 := Lib.hid o2
                have I3 := Lib.hid o3
                clear o1 o2 o3
                go_wp2_with fail
                first | go_end0 | refine bodyPost_ret (results_none rfl _ _ _) rfl ?_
                exact ⟨rfl, outs_one HY.out I1.out I2.out I3.out⟩
          | some t =>
            have HTG := Lib.hid eT
            clear eT
            obtain ⟨vo2, hr2⟩ := HT2.out.rel
            have htg := tag_any hr2
            have hof := of_any hr2 n m.oldtag
            rw [HTG.out] at htg
            simp only [Option.isSome_some, Option.getD_some] at htg
            rw [HNM.out] at hof
            simp only [Option.map_some] at hof
            have k8 : w2.cell? ⟨b2, 8, none⟩ = some (.int .u16 (m.oldtag : Int)) := HT2.out.cell 8
            have HTA := Lib.hid htg
            have HOF := Lib.hid hof
            clear htg hof hr2
            go_wp2_with fail
            refine HTA.out.mono ?_
            rintro e w2' ⟨rfl, rfl⟩
            go_wp2_with fail
            refine HOF.out.mono ?_
            rintro e w3 ⟨rfl, hm3⟩
            have HT3 := Lib.hid (HT2.out.still hm3)
            have c0 : w3.cell? ⟨G.cb (n - 1), 0, none⟩ = some (.int .u32 ((R.cli n).msize : Int)) := HT3.out.rest.msize HN.out
            have k1 : w3.cell? ⟨b2, 1, none⟩ = some (.int .u16 (m.tag : Int)) := HT3.out.cell 1
            clear hm3
            by_cases hz : (R.cli n).msize = 0
            · have bz : (((R.cli n).msize : Int) == 0) = true := by rw [hz]; rfl
              have HZ := Lib.hid hz
              clear hz
              have HY := Lib.hid (tk_121 (R := R) (n := n) HF.out HK.out HZ.out)
              have HROW := Lib.hid HT3.out.row
              have HREF := Lib.hid (refuse_any HT3.out.rest n m 121 (by unfold isWord; simp) (vn := vn) (vq := vq) (vd := vd) HL1.out)
              rw [hmc] at HROW HREF
              go_wp2_with (refine wpList_load_row rfl 47 _ rfl b2 rfl 47 mc (0, 0) _ HROW.out Tryz.underlying47 rfl HIN.out ?_)
              refine HREF.out.mono ?_
              rintro e wz ⟨rfl, o, o1, o2, o3, -⟩
              have I1 := Lib.hid o1
              have I2 := Lib.hid o2
              have I3 := Lib.hid o3
              clear o1 o2 o3
              go_wp2_with fail
              first | go_end0 | refine bodyPost_ret (results_none rfl _ _ _) rfl ?_
              exact ⟨rfl, outs_one HY.out I1.out I2.out I3.out⟩
            · have bz : (((R.cli n).msize : Int) == 0) = false := by simpa using hz
              have HZ := Lib.hid hz
              clear hz
              obtain ⟨vo3, hr3⟩ := HT3.out.rel
              have hof := of_any hr3 n m.tag
              cases eU : R.under n m.tag with
              | some u =>
                rw [eU] at hof
                simp only [Option.map_some] at hof
                have HU := Lib.hid eU
                have HOG := Lib.hid hof
                clear hof hr3 eU
                go_wp2_with fail
                refine HOG.out.mono ?_
                rintro e w4 ⟨rfl, hm4⟩
                have HT4 := Lib.hid (HT3.out.still hm4)
                clear hm4
                have HY := Lib.hid (tk_140 (R := R) (n := n) HF.out HK.out HZ.out (by rw [HU.out]; rfl))
                have HROW := Lib.hid HT4.out.row
                have HREF := Lib.hid (refuse_any HT4.out.rest n m 140 (by unfold isWord; simp) (vn := vn) (vq := vq) (vd := vd) HL1.out)
                rw [hmc] at HROW HREF
                go_wp2_with (refine wpList_load_row rfl 47 _ rfl b2 rfl 47 mc (0, 0) _ HROW.out Tryz.underlying47 rfl HIN.out ?_)
                refine HREF.out.mono ?_
                rintro e wz ⟨rfl, o, o1, o2, o3, -⟩
                have I1 := Lib.hid o1
                have I2 := Lib.hid o2
                have I3 := Lib.hid o3
                clear o1 o2 o3
                go_wp2_with fail
                first | go_end0 | refine bodyPost_ret (results_none rfl _ _ _) rfl ?_
                exact ⟨rfl, outs_one HY.out I1.out I2.out I3.out⟩
              | none =>
                rw [eU] at hof
                simp only [Option.map_none] at hof
                have HU := Lib.hid eU
                have HOG := Lib.hid hof
                have HAS : Hid (R.Asks n m) := Lib.hid ⟨HN.out, (form_ok HF.out).1, ⟨((hr3.wf.cli _ (List.mem_of_getElem? (cli_at HN.out))).1).resolve_left HZ.out, HC.out⟩, eU, HSM.out.toFits⟩
                clear hof hr3 eU
                go_wp2_with fail
                refine HOG.out.mono ?_
                rintro e w4 ⟨rfl, hm4⟩
                have HT4 := Lib.hid (HT3.out.still hm4)
                clear hm4
                have HROW := Lib.hid HT4.out.row
                have HY := Lib.hid (tk_flush (R := R) (n := n) HF.out HK8.out HZ.out HU.out HNM.out HTG.out)
                have HFL := Lib.hid (flush_any (K := K) HT4.out.lists HT4.out.own HSM.out.lists HAS.out HK8.out (List.mem_of_find?_eq_some HNM.out) HTG.out HL1.out)
                rw [hmc] at HROW HFL
                go_wp2_with (refine wpList_load_row rfl 47 _ rfl b2 rfl 47 mc (0, 0) _ HROW.out Tryz.underlying47 rfl HIN.out ?_)
                refine HFL.out.mono ?_
                rintro e wz ⟨rfl, o, G2, o1, o2, o3⟩
                have I1 := Lib.hid o1
                have I2 := Lib.hid o2
                have I3 := Lib.hid o3
                clear o1 o2 o3
                go_wp2_with fail
                first | go_end0 | refine bodyPost_ret (results_none rfl _ _ _) rfl ?_
                exact ⟨rfl, outs_one (G' := G2) HY.out I1.out I2.out I3.out⟩
      · have b108 : ((m.kind : Int) == 108) = false := by simpa using (by omega : ¬ (m.kind : Int) = 108)
        have HK8 := Lib.hid hk8
        clear hk8
        cases eT : R.tag with
        | none =>
          have HTG := Lib.hid eT
          clear eT
          obtain ⟨vo2, hr2⟩ := HT2.out.rel
          have htg := tag_any hr2
          have hof := of_any hr2 n m.oldtag
          rw [HTG.out] at htg
          simp only [Option.isSome_none, Option.getD_none] at htg
          generalize hpn : (R.under n m.oldtag).map (fun q => (⟨G.rb q.id, 0, none⟩ : Addr)) = pn at hof
          clear hpn
          have k8 : w2.cell? ⟨b2, 8, none⟩ = some (.int .u16 (m.oldtag : Int)) := HT2.out.cell 8
          have HTA := Lib.hid htg
          have HOF := Lib.hid hof
          clear htg hof hr2
          go_wp2_with fail
          refine HTA.out.mono ?_
          rintro e w2' ⟨rfl, rfl⟩
          go_wp2_with fail
          refine HOF.out.mono ?_
          rintro e w3 ⟨rfl, hm3⟩
          have HT3 := Lib.hid (HT2.out.still hm3)
          have c0 : w3.cell? ⟨G.cb (n - 1), 0, none⟩ = some (.int .u32 ((R.cli n).msize : Int)) := HT3.out.rest.msize HN.out
          have k1 : w3.cell? ⟨b2, 1, none⟩ = some (.int .u16 (m.tag : Int)) := HT3.out.cell 1
          clear hm3
          by_cases hz : (R.cli n).msize = 0
          · have bz : (((R.cli n).msize : Int) == 0) = true := by rw [hz]; rfl
            have HZ := Lib.hid hz
            clear hz
            have HY := Lib.hid (tk_121 (R := R) (n := n) HF.out HK.out HZ.out)
            have HROW := Lib.hid HT3.out.row
            have HREF := Lib.hid (refuse_any HT3.out.rest n m 121 (by unfold isWord; simp) (vn := vn) (vq := vq) (vd := vd) HL1.out)
            rw [hmc] at HROW HREF
            go_wp2_with (refine wpList_load_row rfl 47 _ rfl b2 rfl 47 mc (0, 0) _ HROW.out Tryz.underlying47 rfl HIN.out ?_)
            refine HREF.out.mono ?_
            rintro e wz ⟨rfl, o, o1, o2, o3, -⟩
            have I1 := Lib.hid o1
            have I2 := Lib.hid o2
            have I3 := Lib.hid o3
            clear o1 o2 o3
            go_wp2_with fail
            first | go_end0 | refine bodyPost_ret (results_none rfl _ _ _) rfl ?_
            exact ⟨rfl, outs_one HY.out I1.out I2.out I3.out⟩
          · have bz : (((R.cli n).msize : Int) == 0) = false := by simpa using hz
            have HZ := Lib.hid hz
            clear hz
            obtain ⟨vo3, hr3⟩ := HT3.out.rel
            have hof := of_any hr3 n m.tag
            cases eU : R.under n m.tag with
            | some u =>
              rw [eU] at hof
              simp only [Option.map_some] at hof
              have HU := Lib.hid eU
              have HOG := Lib.hid hof
              clear hof hr3 eU
              go_wp2_with fail
              refine HOG.out.mono ?_
              rintro e w4 ⟨rfl, hm4⟩
              have HT4 := Lib.hid (HT3.out.still hm4)
              clear hm4
              have HY := Lib.hid (tk_140 (R := R) (n := n) HF.out HK.out HZ.out (by rw [HU.out]; rfl))
              have HROW := Lib.hid HT4.out.row
              have HREF := Lib.hid (refuse_any HT4.out.rest n m 140 (by unfold isWord; simp) (vn := vn) (vq := vq) (vd := vd) HL1.out)
              rw [hmc] at HROW HREF
              go_wp2_with (refine wpList_load_row rfl 47 _ rfl b2 rfl 47 mc (0, 0) _ HROW.out Tryz.underlying47 rfl HIN.out ?_)
              refine HREF.out.mono ?_
              rintro e wz ⟨rfl, o, o1, o2, o3, -⟩
              have I1 := Lib.hid o1
              have I2 := Lib.hid o2
              have I3 := Lib.hid o3
              clear o1 o2 o3
              go_wp2_with fail
              first | go_end0 | refine bodyPost_ret (results_none rfl _ _ _) rfl ?_
              exact ⟨rfl, outs_one HY.out I1.out I2.out I3.out⟩
            | none =>
              rw [eU] at hof
              simp only [Option.map_none] at hof
              have HU := Lib.hid eU
              have HOG := Lib.hid hof
              have HAS : Hid (R.Asks n m) := Lib.hid ⟨HN.out, (form_ok HF.out).1, ⟨((hr3.wf.cli _ (List.mem_of_getElem? (cli_at HN.out))).1).resolve_left HZ.out, HC.out⟩, eU, HSM.out.toFits⟩
              clear hof hr3 eU
              go_wp2_with fail
              refine HOG.out.mono ?_
              rintro e w4 ⟨rfl, hm4⟩
              have HT4 := Lib.hid (HT3.out.still hm4)
              clear hm4
              have HY := Lib.hid (tk_141 (R := R) (n := n) HF.out HK.out HZ.out HU.out (fun h => HK8.out h.1) HTG.out)
              have HROW := Lib.hid HT4.out.row
              have HREF := Lib.hid (refuse_any HT4.out.rest n m 141 (by unfold isWord; simp) (vn := vn) (vq := vq) (vd := vd) HL1.out)
              rw [hmc] at HROW HREF
              go_wp2_with (refine wpList_load_row rfl 47 _ rfl b2 rfl 47 mc (0, 0) _ HROW.out Tryz.underlying47 rfl HIN.out ?_)
              refine HREF.out.mono ?_
              rintro e wz ⟨rfl, o, o1, o2, o3, -⟩
              have I1 := Lib.hid o1
              have I2 := Lib.hid o2
              have I3 := Lib.hid o3
              clear o1 o2 o3
              go_wp2_with fail
              first | go_end0 | refine bodyPost_ret (results_none rfl _ _ _) rfl ?_
              exact ⟨rfl, outs_one HY.out I1.out I2.out I3.out⟩
        | some t =>
          have HTG := Lib.hid eT
          clear eT
          obtain ⟨vo2, hr2⟩ := HT2.out.rel
          have htg := tag_any hr2
          have hof := of_any hr2 n m.oldtag
          rw [HTG.out] at htg
          simp only [Option.isSome_some, Option.getD_some] at htg
          generalize hpn : (R.under n m.oldtag).map (fun q => (⟨G.rb q.id, 0, none⟩ : Addr)) = pn at hof
          clear hpn
          have k8 : w2.cell? ⟨b2, 8, none⟩ = some (.int .u16 (m.oldtag : Int)) := HT2.out.cell 8
          have HTA := Lib.hid htg
          have HOF := Lib.hid hof
          clear htg hof hr2
          go_wp2_with fail
          refine HTA.out.mono ?_
          rintro e w2' ⟨rfl, rfl⟩
          go_wp2_with fail
          refine HOF.out.mono ?_
          rintro e w3 ⟨rfl, hm3⟩
          have HT3 := Lib.hid (HT2.out.still hm3)
          have c0 : w3.cell? ⟨G.cb (n - 1), 0, none⟩ = some (.int .u32 ((R.cli n).msize : Int)) := HT3.out.rest.msize HN.out
          have k1 : w3.cell? ⟨b2, 1, none⟩ = some (.int .u16 (m.tag : Int)) := HT3.out.cell 1
          clear hm3
          by_cases hz : (R.cli n).msize = 0
          · have bz : (((R.cli n).msize : Int) == 0) = true := by rw [hz]; rfl
            have HZ := Lib.hid hz
            clear hz
            have HY := Lib.hid (tk_121 (R := R) (n := n) HF.out HK.out HZ.out)
            have HROW := Lib.hid HT3.out.row
            have HREF := Lib.hid (refuse_any HT3.out.rest n m 121 (by unfold isWord; simp) (vn := vn) (vq := vq) (vd := vd) HL1.out)
            rw [hmc] at HROW HREF
            go_wp2_with (refine wpList_load_row rfl 47 _ rfl b2 rfl 47 mc (0, 0) _ HROW.out Tryz.underlying47 rfl HIN.out ?_)
            refine HREF.out.mono ?_
            rintro e wz ⟨rfl, o, o1, o2, o3, -⟩
            have I1 := Lib.hid o1
            have I2 := Lib.hid o2
            have I3 := Lib.hid o3
            clear o1 o2 o3
            go_wp2_with fail
            first | go_end0 | refine bodyPost_ret (results_none rfl _ _ _) rfl ?_
            exact ⟨rfl, outs_one HY.out I1.out I2.out I3.out⟩
          · have bz : (((R.cli n).msize : Int) == 0) = false := by simpa using hz
            have HZ := Lib.hid hz
            clear hz
            obtain ⟨vo3, hr3⟩ := HT3.out.rel
            have hof := of_any hr3 n m.tag
            cases eU : R.under n m.tag with
            | some u =>
              rw [eU] at hof
              simp only [Option.map_some] at hof
              have HU := Lib.hid eU
              have HOG := Lib.hid hof
              clear hof hr3 eU
              go_wp2_with fail
              refine HOG.out.mono ?_
              rintro e w4 ⟨rfl, hm4⟩
              have HT4 := Lib.hid (HT3.out.still hm4)
              clear hm4
              have HY := Lib.hid (tk_140 (R := R) (n := n) HF.out HK.out HZ.out (by rw [HU.out]; rfl))
              have HROW := Lib.hid HT4.out.row
              have HREF := Lib.hid (refuse_any HT4.out.rest n m 140 (by unfold isWord; simp) (vn := vn) (vq := vq) (vd := vd) HL1.out)
              rw [hmc] at HROW HREF
              go_wp2_with (refine wpList_load_row rfl 47 _ rfl b2 rfl 47 mc (0, 0) _ HROW.out Tryz.underlying47 rfl HIN.out ?_)
              refine HREF.out.mono ?_
              rintro e wz ⟨rfl, o, o1, o2, o3, -⟩
              have I1 := Lib.hid o1
              have I2 := Lib.hid o2
              have I3 := Lib.hid o3
              clear o1 o2 o3
              go_wp2_with fail
              first | go_end0 | refine bodyPost_ret (results_none rfl _ _ _) rfl ?_
              exact ⟨rfl, outs_one HY.out I1.out I2.out I3.out⟩
            | none =>
              rw [eU] at hof
              simp only [Option.map_none] at hof
              have HU := Lib.hid eU
              have HOG := Lib.hid hof
              have HAS : Hid (R.Asks n m) := Lib.hid ⟨HN.out, (form_ok HF.out).1, ⟨((hr3.wf.cli _ (List.mem_of_getElem? (cli_at HN.out))).1).resolve_left HZ.out, HC.out⟩, eU, HSM.out.toFits⟩
              clear hof hr3 eU
              go_wp2_with fail
              refine HOG.out.mono ?_
              rintro e w4 ⟨rfl, hm4⟩
              have HT4 := Lib.hid (HT3.out.still hm4)
              clear hm4
              have HROW := Lib.hid HT4.out.row
              have HY := Lib.hid (tk_pass (R := R) (n := n) HF.out HK.out HK8.out HZ.out HU.out HTG.out)
              have HPA := Lib.hid (passes_any (K := K) HT4.out.lists HT4.out.own HSM.out.lists HAS.out HK8.out HTG.out HL1.out)
              rw [hmc] at HROW HPA
              go_wp2_with (refine wpList_load_row rfl 47 _ rfl b2 rfl 47 mc (0, 0) _ HROW.out Tryz.underlying47 rfl HIN.out ?_)
              refine HPA.out.mono ?_
              rintro e wz ⟨rfl, o1⟩
              have I1 := Lib.hid o1
              clear o1
              go_wp2_with fail
              first | go_end0 | refine bodyPost_ret (results_none rfl _ _ _) rfl ?_
              refine ⟨rfl, ?_⟩
              rw [HY.out]
              exact I1.out
  · have bf : ((RelP.form m : Int) != 0) = true := by simpa using hf
    have HF := Lib.hid hf
    clear hf
    have HY := Lib.hid (tk_form (R := R) (n := n) HF.out)
    have HROW := Lib.hid HT2.out.row
    have HREF := Lib.hid (refuse_any HT2.out.rest n m (RelP.form m) (form_word HF.out) (vn := vn) (vq := vq) (vd := vd) HL1.out)
    rw [hmc] at HROW HREF
    go_wp2_with (refine wpList_load_row rfl 47 _ rfl b2 rfl 47 mc (0, 0) _ HROW.out Tryz.underlying47 rfl HIN.out ?_)
    refine HREF.out.mono ?_
    rintro e wz ⟨rfl, o, o1, o2, o3, -⟩
    have I1 := Lib.hid o1
    have I2 := Lib.hid o2
    have I3 := Lib.hid o3
    clear o1 o2 o3
    go_wp2_with fail
    first | go_end0 | refine bodyPost_ret (results_none rfl _ _ _) rfl ?_
    exact ⟨rfl, outs_one HY.out I1.out I2.out I3.out⟩
end
end Go.Proofs.YtlgoeipgmjcboaaGreatDoor
