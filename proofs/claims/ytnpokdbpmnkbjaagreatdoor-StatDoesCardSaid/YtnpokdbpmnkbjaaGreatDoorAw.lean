/- stat.Encode. | stat.Decode. (Printed by wip/bin/gendec.py.) | vergerlaw02's sample, awake, weight. -/
import Derived.Test.YtnpokdbpmnkbjaaGreatDoorSr
import Derived.Test.YtnpokdbpmnkbjaaGreatDoorTk
import Derived.Laws.StructEq
namespace Go.Proofs.YtnpokdbpmnkbjaaGreatDoor
open Go.RowKit Me

theorem firstErr_append (a b : List ByteArray) : firstErr (a ++ b) = if firstErr a ≠ 0 then firstErr a else firstErr b := by
  induction a with
  | nil => simp [firstErr]
  | cons t r ih =>
    simp only [List.cons_append, firstErr, ih]
    by_cases h : textErr t = 0 <;> simp [h]
theorem firstErr_here {l : List ByteArray} {k : Nat} (hk : k < l.length) (h0 : firstErr (l.take k) = 0) (h : textErr l[k] ≠ 0) : firstErr l = textErr l[k] := by
  have e : firstErr l = firstErr (l.take k ++ (l[k] :: l.drop (k + 1))) := by rw [← List.drop_eq_getElem_cons hk, List.take_append_drop]
  rw [e, firstErr_append, if_neg (by omega)]
  simp only [firstErr]
  rw [if_pos (by simpa using h)]
theorem firstErr_next {l : List ByteArray} {k : Nat} (hk : k < l.length) (h0 : firstErr (l.take k) = 0) (h : textErr l[k] = 0) : firstErr (l.take (k + 1)) = 0 := by
  rw [List.take_succ_eq_append_getElem hk, firstErr_append, if_neg (by omega)]
  simp [firstErr, h]
theorem encode_bad {s : StatP} {e : Nat} (h : s.err = e) (he : e ≠ 0) : s.encode = ([], e) := by
  unfold StatP.encode
  rw [h, if_pos he]
theorem encode_good {s : StatP} (h : s.err = 0) : s.encode = (s.enc, 0) := by
  unfold StatP.encode
  rw [h, if_neg (by omega)]
theorem new_stat_done {s : StatP} (h : s.err = 0) : ((WSt.new s.size).stat s).done = (s.enc, 0) := by
  rw [WSt.stat_fits (S := WSt.new s.size) rfl h (by simp [WSt.new])]
  simp [WSt.lay, WSt.new, WSt.done]
def RelEnc (w : World) (b c : Nat) (s : StatP) (l : List ByteArray) (i : Value) (wr : World) : Prop :=
  ∃ k : Nat, k ≤ 4 ∧ i = .int .i64 k ∧ firstErr (l.take k) = 0 ∧ Mods [] w wr ∧ wr.heap[b]? = some (.cells (statV s) 35 (0, 0)) ∧ wr.heap[c]? = some (.cells (l.map Value.string).toArray 9 (0, 0)) ∧ Lib.Utf8Tabs 0 1 wr
def EncPost (w : World) (r : List UInt8 × Nat) (e : Ending) (w' : World) : Prop :=
  ∃ v, e = .returned (.tuple #[v, .int .i64 (r.2 : Int)]) ∧ w'.ownsRow w.heap.size 5 1 v r.1.length (r.1.map byteV) ∧ Mods [] w w'
theorem EncPost.none {w w' : World} {e : Nat} {r : List UInt8 × Nat} (hr : r = ([], e)) (hm : Mods [] w w') : EncPost w r (.returned (.tuple #[.slice none 0 0, .int .i64 (e : Int)])) w' := by
  subst hr
  exact ⟨_, rfl, World.ownsRow_nil _ _ _ _, hm⟩
set_option maxRecDepth 100000 in
set_option maxHeartbeats 1000000 in
theorem encode_any {w : World} (hT : Lib.Utf8Tabs 0 1 w) (s : StatP) (hs : s.Fits) (hz : s.size ≤ 600000000000000) :
    Calls Tryz.prog 21 #[.agg (statV s)] w (EncPost w s.encode) := by
  have h2 := tabs_two hT
  have B0 := Lib.hid (heap_alloc_new w (.cells (statV s) 35))
  have M0 := Lib.hid ((Mods.refl [] w).alloc (.cells (statV s) 35))
  have HS := Lib.hid hs
  clear hs
  have c9 : (w.alloc (.cells (statV s) 35)).cell? ⟨w.heap.size, 9, none⟩ = some (.string s.name) := by rw [cell_of_row _ _ _ _ _ _ B0.out]; rfl
  have c10 : (w.alloc (.cells (statV s) 35)).cell? ⟨w.heap.size, 10, none⟩ = some (.string s.uid) := by rw [cell_of_row _ _ _ _ _ _ B0.out]; rfl
  have c11 : (w.alloc (.cells (statV s) 35)).cell? ⟨w.heap.size, 11, none⟩ = some (.string s.gid) := by rw [cell_of_row _ _ _ _ _ _ B0.out]; rfl
  have c12 : (w.alloc (.cells (statV s) 35)).cell? ⟨w.heap.size, 12, none⟩ = some (.string s.muid) := by rw [cell_of_row _ _ _ _ _ _ B0.out]; rfl
  have b1 := heap_alloc_new (w.alloc (.cells (statV s) 35)) (.cells #[.string s.name, .string s.uid, .string s.gid, .string s.muid] 9)
  rw [World.size_alloc] at b1
  have B1 := Lib.hid b1
  clear b1
  have M1 := Lib.hid (M0.out.alloc (.cells #[.string s.name, .string s.uid, .string s.gid, .string s.muid] 9))
  have B2 := Lib.hid ((Go.heap_alloc_old (w.alloc (.cells (statV s) 35)) (.cells #[.string s.name, .string s.uid, .string s.gid, .string s.muid] 9) (by simp)).trans B0.out)
  have T1 := Lib.hid (tabs_mods M1.out hT)
  clear B0 M0 hT
  go_enter Tryz.func21, Tryz.ntmps21
  go_wp2_with fail
  clear c9 c10 c11 c12
  have hl4 : s.texts.length = 4 := rfl
  have HL := Lib.hid hl4
  have hlm : (#[.string s.name, .string s.uid, .string s.gid, .string s.muid] : Array Value) = (s.texts.map Value.string).toArray := rfl
  have HLM := Lib.hid hlm
  have HZ := Lib.hid (fun t (ht : t ∈ s.texts) => texts_size s hz t ht)
  have HERR := Lib.hid (show s.err = if firstErr s.texts ≠ 0 then firstErr s.texts else if 65535 < s.size - 2 then 13 else 0 from rfl)
  clear hl4 hlm
  generalize s.texts = l at *
  generalize w.heap.size + 1 = c at *
  generalize hb : w.heap.size = b at *
  have HB := Lib.hid hb
  clear hb
  go_loopw [18] (fun i wr => RelEnc w b c s l i wr) (fun i _ => 4 - (intOf i).toNat)
  case atStart => exact ⟨0, by omega, rfl, rfl, M1.out, B2.out, by rw [← HLM.out]; exact B1.out, T1.out⟩
  case round =>
    obtain ⟨k, hk, rfl, hf, hm, hbb, hcc, ht⟩ := hrel
    have HF := Lib.hid hf
    have HM := Lib.hid hm
    have HBB := Lib.hid hbb
    have HCC := Lib.hid hcc
    have HT := Lib.hid ht
    clear hf hm hbb hcc ht M1 B1 B2 T1
    rcases Nat.lt_or_ge k 4 with hlt | hge
    · have hlk : k < l.length := by have := HL.out; omega
      have hc0 : wr.cell? ⟨c, k, none⟩ = some (.string l[k]) := by rw [cell_of_row _ _ _ _ _ _ HCC.out]; simp [hlk]
      have HH := Lib.hid (fun h => firstErr_here hlk HF.out h)
      have HN := Lib.hid (fun h => firstErr_next hlk HF.out h)
      have hzk := HZ.out l[k] (by simp)
      generalize l[k] = t at *
      have HZK := Lib.hid hzk
      unfold maxLen at hzk
      by_cases h6 : 65535 < t.size
      · have hte : textErr t = 13 := by unfold textErr; rw [if_pos h6]
        have hfe := HH.out (by omega)
        have HE := Lib.hid (encode_bad (s := s) (e := 13) (by rw [HERR.out, hfe, hte]; rfl) (by omega))
        clear hte hfe
        go_wp2_with fail
        go_ret2
        exact EncPost.none HE.out HM.out
      · by_cases hg : Tx.good t.data.toList = true
        · have hte : textErr t = 0 := by unfold textErr; rw [if_neg h6, if_pos hg]
          have HN1 := Lib.hid (HN.out hte)
          have HG := Lib.hid (good_is t true wr HZK.out HT.out hg)
          clear hte hg
          go_wp2_with fail
          refine HG.out.mono ?_; rintro e w1 ⟨rfl, hb1⟩
          have hm1 := below_mods hb1
          have HM1 := Lib.hid (HM.out.trans hm1 (by simp))
          have HB1 := Lib.hid (hm1.heap HBB.out (by simp))
          have HC1 := Lib.hid (hm1.heap HCC.out (by simp))
          have HT1 := Lib.hid (tabs_mods hm1 HT.out)
          clear hb1 hm1 hc0
          go_wp2_with fail
          exact ⟨⟨k + 1, by omega, rfl, HN1.out, HM1.out, HB1.out, HC1.out, HT1.out⟩, by simp only [intOf]; omega⟩
        · have hte : textErr t = 12 := by unfold textErr; rw [if_neg h6, if_neg hg]
          have hfe := HH.out (by omega)
          have HE := Lib.hid (encode_bad (s := s) (e := 12) (by rw [HERR.out, hfe, hte]; rfl) (by omega))
          have HG := Lib.hid (good_is t false wr HZK.out HT.out (by simpa using hg))
          clear hte hg hfe
          go_wp2_with fail
          refine HG.out.mono ?_; rintro e w1 ⟨rfl, hb1⟩
          have HM1 := Lib.hid (HM.out.trans (below_mods hb1) (by simp))
          clear hb1 hc0
          go_wp2_with fail
          go_ret2
          exact EncPost.none HE.out HM1.out
    · obtain rfl : k = 4 := by omega
      have hf0 : firstErr l = 0 := by have := HF.out; rwa [List.take_of_length_le (by have := HL.out; omega)] at this
      have herr := HERR.out
      rw [hf0, if_neg (by omega)] at herr
      have HER := Lib.hid herr
      clear hf0 herr
      clear hk hge
      have c0 : wr.cell? ⟨b, 0, none⟩ = some (.int .u16 (s.typ : Int)) := by rw [cell_of_row _ _ _ _ _ _ HBB.out]; rfl
      have c1 : wr.cell? ⟨b, 1, none⟩ = some (.int .u32 (s.dev : Int)) := by rw [cell_of_row _ _ _ _ _ _ HBB.out]; rfl
      have c2 : wr.cell? ⟨b, 2, none⟩ = some (.int .u8 (s.qid.kind : Int)) := by rw [cell_of_row _ _ _ _ _ _ HBB.out]; rfl
      have c3 : wr.cell? ⟨b, 3, none⟩ = some (.int .u32 (s.qid.vers : Int)) := by rw [cell_of_row _ _ _ _ _ _ HBB.out]; rfl
      have c4 : wr.cell? ⟨b, 4, none⟩ = some (.int .u64 (s.qid.path : Int)) := by rw [cell_of_row _ _ _ _ _ _ HBB.out]; rfl
      have c5 : wr.cell? ⟨b, 5, none⟩ = some (.int .u32 (s.mode : Int)) := by rw [cell_of_row _ _ _ _ _ _ HBB.out]; rfl
      have c6 : wr.cell? ⟨b, 6, none⟩ = some (.int .u32 (s.atime : Int)) := by rw [cell_of_row _ _ _ _ _ _ HBB.out]; rfl
      have c7 : wr.cell? ⟨b, 7, none⟩ = some (.int .u32 (s.mtime : Int)) := by rw [cell_of_row _ _ _ _ _ _ HBB.out]; rfl
      have c8 : wr.cell? ⟨b, 8, none⟩ = some (.int .u64 (s.length : Int)) := by rw [cell_of_row _ _ _ _ _ _ HBB.out]; rfl
      have c9 : wr.cell? ⟨b, 9, none⟩ = some (.string s.name) := by rw [cell_of_row _ _ _ _ _ _ HBB.out]; rfl
      have c10 : wr.cell? ⟨b, 10, none⟩ = some (.string s.uid) := by rw [cell_of_row _ _ _ _ _ _ HBB.out]; rfl
      have c11 : wr.cell? ⟨b, 11, none⟩ = some (.string s.gid) := by rw [cell_of_row _ _ _ _ _ _ HBB.out]; rfl
      have c12 : wr.cell? ⟨b, 12, none⟩ = some (.string s.muid) := by rw [cell_of_row _ _ _ _ _ _ HBB.out]; rfl
      by_cases h6 : 65535 < s.size - 2
      · have HE := Lib.hid (encode_bad (s := s) (e := 13) (by rw [HER.out, if_pos h6]) (by omega))
        go_wp2_with fail
        refine (size_any s _ hz).mono ?_; rintro e w1 ⟨rfl, hm1⟩
        have HM1 := Lib.hid (HM.out.trans hm1 (by simp))
        clear hm1 c0 c1 c2 c3 c4 c5 c6 c7 c8 c9 c10 c11 c12
        go_wp2_with fail
        go_ret2
        exact EncPost.none HE.out HM1.out
      · have h0 : s.err = 0 := by rw [HER.out, if_neg h6]
        have H0 := Lib.hid h0
        have h7 : (s.size : Int) - 2 ≤ 65535 := by omega
        have h8 : s.size ≤ 70000 := by omega
        clear h0 h6
        go_wp2_with fail
        refine (size_any s _ hz).mono ?_; rintro e w1 ⟨rfl, hm1⟩
        have HM1 := Lib.hid (HM.out.trans hm1 (by simp))
        have HB1 := Lib.hid (hm1.heap HBB.out (by simp))
        have HT1 := Lib.hid (tabs_mods hm1 HT.out)
        clear hm1 c0 c1 c2 c3 c4 c5 c6 c7 c8 c9 c10 c11 c12
        have c0 : w1.cell? ⟨b, 0, none⟩ = some (.int .u16 (s.typ : Int)) := by rw [cell_of_row _ _ _ _ _ _ HB1.out]; rfl
        have c1 : w1.cell? ⟨b, 1, none⟩ = some (.int .u32 (s.dev : Int)) := by rw [cell_of_row _ _ _ _ _ _ HB1.out]; rfl
        have c2 : w1.cell? ⟨b, 2, none⟩ = some (.int .u8 (s.qid.kind : Int)) := by rw [cell_of_row _ _ _ _ _ _ HB1.out]; rfl
        have c3 : w1.cell? ⟨b, 3, none⟩ = some (.int .u32 (s.qid.vers : Int)) := by rw [cell_of_row _ _ _ _ _ _ HB1.out]; rfl
        have c4 : w1.cell? ⟨b, 4, none⟩ = some (.int .u64 (s.qid.path : Int)) := by rw [cell_of_row _ _ _ _ _ _ HB1.out]; rfl
        have c5 : w1.cell? ⟨b, 5, none⟩ = some (.int .u32 (s.mode : Int)) := by rw [cell_of_row _ _ _ _ _ _ HB1.out]; rfl
        have c6 : w1.cell? ⟨b, 6, none⟩ = some (.int .u32 (s.atime : Int)) := by rw [cell_of_row _ _ _ _ _ _ HB1.out]; rfl
        have c7 : w1.cell? ⟨b, 7, none⟩ = some (.int .u32 (s.mtime : Int)) := by rw [cell_of_row _ _ _ _ _ _ HB1.out]; rfl
        have c8 : w1.cell? ⟨b, 8, none⟩ = some (.int .u64 (s.length : Int)) := by rw [cell_of_row _ _ _ _ _ _ HB1.out]; rfl
        have c9 : w1.cell? ⟨b, 9, none⟩ = some (.string s.name) := by rw [cell_of_row _ _ _ _ _ _ HB1.out]; rfl
        have c10 : w1.cell? ⟨b, 10, none⟩ = some (.string s.uid) := by rw [cell_of_row _ _ _ _ _ _ HB1.out]; rfl
        have c11 : w1.cell? ⟨b, 11, none⟩ = some (.string s.gid) := by rw [cell_of_row _ _ _ _ _ _ HB1.out]; rfl
        have c12 : w1.cell? ⟨b, 12, none⟩ = some (.string s.muid) := by rw [cell_of_row _ _ _ _ _ _ HB1.out]; rfl
        go_wp2_with fail
        refine (size_any s _ hz).mono ?_; rintro e w2 ⟨rfl, hm2⟩
        have HM2 := Lib.hid (HM1.out.trans hm2 (by simp))
        have HB2 := Lib.hid (hm2.heap HB1.out (by simp))
        have HT2 := Lib.hid (tabs_mods hm2 HT1.out)
        clear hm2 c0 c1 c2 c3 c4 c5 c6 c7 c8 c9 c10 c11 c12
        go_wp2_with fail
        refine (newWriter_ok s.size w2 (by omega)).mono ?_; rintro e w3 ⟨rfl, hw, hm3⟩
        have hge : b ≤ w2.heap.size := by rw [← HB.out]; exact HM2.out.size
        have HW3 := Lib.hid hw
        have HM3 := Lib.hid (HM2.out.trans hm3 (by simp))
        have HB3 := Lib.hid (hm3.heap HB2.out (by simp))
        have HT3 := Lib.hid (tabs_mods hm3 HT2.out)
        clear hw hm3
        generalize w2.heap.size = a at *
        have c0 : w3.cell? ⟨b, 0, none⟩ = some (.int .u16 (s.typ : Int)) := by rw [cell_of_row _ _ _ _ _ _ HB3.out]; rfl
        have c1 : w3.cell? ⟨b, 1, none⟩ = some (.int .u32 (s.dev : Int)) := by rw [cell_of_row _ _ _ _ _ _ HB3.out]; rfl
        have c2 : w3.cell? ⟨b, 2, none⟩ = some (.int .u8 (s.qid.kind : Int)) := by rw [cell_of_row _ _ _ _ _ _ HB3.out]; rfl
        have c3 : w3.cell? ⟨b, 3, none⟩ = some (.int .u32 (s.qid.vers : Int)) := by rw [cell_of_row _ _ _ _ _ _ HB3.out]; rfl
        have c4 : w3.cell? ⟨b, 4, none⟩ = some (.int .u64 (s.qid.path : Int)) := by rw [cell_of_row _ _ _ _ _ _ HB3.out]; rfl
        have c5 : w3.cell? ⟨b, 5, none⟩ = some (.int .u32 (s.mode : Int)) := by rw [cell_of_row _ _ _ _ _ _ HB3.out]; rfl
        have c6 : w3.cell? ⟨b, 6, none⟩ = some (.int .u32 (s.atime : Int)) := by rw [cell_of_row _ _ _ _ _ _ HB3.out]; rfl
        have c7 : w3.cell? ⟨b, 7, none⟩ = some (.int .u32 (s.mtime : Int)) := by rw [cell_of_row _ _ _ _ _ _ HB3.out]; rfl
        have c8 : w3.cell? ⟨b, 8, none⟩ = some (.int .u64 (s.length : Int)) := by rw [cell_of_row _ _ _ _ _ _ HB3.out]; rfl
        have c9 : w3.cell? ⟨b, 9, none⟩ = some (.string s.name) := by rw [cell_of_row _ _ _ _ _ _ HB3.out]; rfl
        have c10 : w3.cell? ⟨b, 10, none⟩ = some (.string s.uid) := by rw [cell_of_row _ _ _ _ _ _ HB3.out]; rfl
        have c11 : w3.cell? ⟨b, 11, none⟩ = some (.string s.gid) := by rw [cell_of_row _ _ _ _ _ _ HB3.out]; rfl
        have c12 : w3.cell? ⟨b, 12, none⟩ = some (.string s.muid) := by rw [cell_of_row _ _ _ _ _ _ HB3.out]; rfl
        have hft : ∀ k ∈ foot a (.slice none 0 0) (.slice none 0 0), k = a := by simp [foot, Value.ownBlock]
        have HFT := Lib.hid hft
        clear hft
        go_wp2_with fail
        refine (put_any HW3.out (fun k hk => by have := HFT.out k hk; omega) HT3.out s HS.out hz).mono ?_; rintro e w4 ⟨rfl, vb, vo, hw, hm4, hft⟩
        have HW4 := Lib.hid hw
        have HM4 := Lib.hid (HM3.out.trans hm4 (fun k hk => Or.inr (by have := HFT.out k hk; rw [HB.out]; omega)))
        clear hw hm4 hft c0 c1 c2 c3 c4 c5 c6 c7 c8 c9 c10 c11 c12
        go_wp2_with fail
        refine (done_any HW4.out).mono ?_; rintro e w5 ⟨v, rfl, ho, hm5⟩
        rw [new_stat_done H0.out] at ho ⊢
        obtain ⟨A, cc, rfl⟩ := own_ctor ho
        have HO := Lib.hid ho
        have HM5 := Lib.hid (HM4.out.trans hm5 (by simp))
        clear ho hm5
        go_wp2_with fail
        go_ret2
        rw [encode_good H0.out]
        exact ⟨_, rfl, ownsRow_base HO.out HM4.out.size, HM5.out⟩
end Go.Proofs.YtnpokdbpmnkbjaaGreatDoor
namespace Go.Proofs.YtnpokdbpmnkbjaaGreatDoor
open Go.RowKit Me

theorem decode_eq {l : List UInt8} {r : StatP × RSt} {F : RSt} (hr : (RSt.new l).stat = r) (hF : r.2.fin = F) : decode l = if F.err ≠ 0 then (StatP.zero, 20) else (r.1, 0) := by
  subst hr
  subst hF
  rfl
set_option maxRecDepth 100000 in
set_option maxHeartbeats 1000000 in
theorem decode_any {w : World} {vx : Value} (l : List UInt8) (hx : Rd w vx (l.map byteV)) (hl : l.length ≤ 70000000000000) (hT : Lib.Utf8Tabs 0 1 w) :
    Calls Tryz.prog 26 #[vx] w fun e w' => e = .returned (.tuple #[.agg (statV (decode l).1), .int .i64 ((decode l).2 : Int)]) ∧ Mods [] w w' := by
  have X0 := Lib.hid (hx.mods ((Mods.refl [] w).alloc (.cells zeroV 35)) (by simp))
  have B0 := Lib.hid (heap_alloc_new w (.cells zeroV 35))
  have h2 := tabs_two hT
  have M0 := Lib.hid ((Mods.refl [] w).alloc (.cells zeroV 35))
  have T0 := Lib.hid (tabs_mods M0.out hT)
  clear hx hT
  generalize hr : (RSt.new l).stat = r at *
  generalize hF : r.2.fin = F at *
  have HEQ := Lib.hid (decode_eq hr hF)
  have GR := Lib.hid hr
  have GF := Lib.hid hF
  clear hr hF
  go_enter Tryz.func26, Tryz.ntmps26
  go_wp2_with fail
  refine (newReader_any l X0.out hl).mono ?_; rintro e w1 ⟨a, vb, rfl, hr, ho, ha, hm⟩
  have ha' : w.heap.size + 1 ≤ a := by simpa using ha
  have R1 := Lib.hid hr
  have V1 := Lib.hid (fun k (hk : vb.ownBlock = some k) => (ho.lt k hk).2)
  have V2 := Lib.hid (fun k (hk : vb.ownBlock = some k) => (ho.lt k hk).1)
  have M1 := Lib.hid (M0.out.trans hm (by simp))
  have B1 := Lib.hid (hm.heap B0.out (by simp))
  have T1 := Lib.hid (tabs_mods hm T0.out)
  clear hr ho hm ha
  go_wp2_with fail
  refine (take_any R1.out V1.out (by omega) T1.out).mono ?_; rintro e w2 ⟨rfl, hp⟩
  rw [GR.out] at hp ⊢
  have R2 := Lib.hid (hp.1.mods ((Mods.refl [] w2).alloc (.cells (statV r.1) 35)) (by simp) (by simp))
  have M2 := Lib.hid ((M1.out.trans hp.2 (fun b hb => by simp at hb; subst hb; exact Or.inr (by omega))).alloc (.cells (statV r.1) 35))
  have hb2 := hp.2.heap B1.out (by simp; omega)
  have B2 := Lib.hid ((Go.heap_alloc_old w2 (.cells (statV r.1) 35) (Array.getElem?_eq_some_iff.1 hb2).1).trans hb2)
  have C2 := Lib.hid (heap_alloc_new w2 (.cells (statV r.1) 35))
  have hsz : a < w2.heap.size := (Array.getElem?_eq_some_iff.1 hp.1.cells).1
  clear hp hb2
  generalize r.1 = s at *
  unfold statV
  go_wp2_with fail
  refine (end_any R2.out).mono ?_; rintro e w3 ⟨rfl, hp⟩
  rw [GF.out] at hp
  have M3 := Lib.hid (M2.out.trans hp.2 (fun b hb => by simp at hb; subst hb; exact Or.inr (by omega)))
  have B3 := Lib.hid (hp.2.heap B2.out (by simp; omega))
  have C3 := Lib.hid (hp.2.heap C2.out (by simp; omega))
  have R3 := Lib.hid hp.1
  clear hp
  go_wp2_with fail
  refine (err_any R3.out).mono ?_; rintro e w4 ⟨rfl, k, rfl⟩
  have M4 := Lib.hid (M3.out.drewN k)
  have b4 : (w3.drewN k).heap[w.heap.size]? = some (.cells zeroV 35 (0, 0)) := B3.out
  have c4 : (w3.drewN k).heap[w2.heap.size]? = some (.cells (statV s) 35 (0, 0)) := C3.out
  generalize w3.drewN k = w4 at *
  have B4 := Lib.hid b4
  have C4 := Lib.hid c4
  clear b4 c4
  generalize w2.heap.size = bs at *
  by_cases he : F.err = 0
  · have hb : (F.err != 0) = false := by rw [he]; rfl
    have HE := Lib.hid he
    clear he
    have c0 : w4.cell? ⟨bs, 0, none⟩ = some (.int .u16 (s.typ : Int)) := by rw [cell_of_row _ _ _ _ _ _ C4.out]; rfl
    have c1 : w4.cell? ⟨bs, 1, none⟩ = some (.int .u32 (s.dev : Int)) := by rw [cell_of_row _ _ _ _ _ _ C4.out]; rfl
    have c2 : w4.cell? ⟨bs, 2, none⟩ = some (.int .u8 (s.qid.kind : Int)) := by rw [cell_of_row _ _ _ _ _ _ C4.out]; rfl
    have c3 : w4.cell? ⟨bs, 3, none⟩ = some (.int .u32 (s.qid.vers : Int)) := by rw [cell_of_row _ _ _ _ _ _ C4.out]; rfl
    have c4 : w4.cell? ⟨bs, 4, none⟩ = some (.int .u64 (s.qid.path : Int)) := by rw [cell_of_row _ _ _ _ _ _ C4.out]; rfl
    have c5 : w4.cell? ⟨bs, 5, none⟩ = some (.int .u32 (s.mode : Int)) := by rw [cell_of_row _ _ _ _ _ _ C4.out]; rfl
    have c6 : w4.cell? ⟨bs, 6, none⟩ = some (.int .u32 (s.atime : Int)) := by rw [cell_of_row _ _ _ _ _ _ C4.out]; rfl
    have c7 : w4.cell? ⟨bs, 7, none⟩ = some (.int .u32 (s.mtime : Int)) := by rw [cell_of_row _ _ _ _ _ _ C4.out]; rfl
    have c8 : w4.cell? ⟨bs, 8, none⟩ = some (.int .u64 (s.length : Int)) := by rw [cell_of_row _ _ _ _ _ _ C4.out]; rfl
    have c9 : w4.cell? ⟨bs, 9, none⟩ = some (.string s.name) := by rw [cell_of_row _ _ _ _ _ _ C4.out]; rfl
    have c10 : w4.cell? ⟨bs, 10, none⟩ = some (.string s.uid) := by rw [cell_of_row _ _ _ _ _ _ C4.out]; rfl
    have c11 : w4.cell? ⟨bs, 11, none⟩ = some (.string s.gid) := by rw [cell_of_row _ _ _ _ _ _ C4.out]; rfl
    have c12 : w4.cell? ⟨bs, 12, none⟩ = some (.string s.muid) := by rw [cell_of_row _ _ _ _ _ _ C4.out]; rfl
    have d0 : w4.cell? ⟨w.heap.size, 0, none⟩ = some (.int .u16 0) := by rw [cell_of_row _ _ _ _ _ _ B4.out]; rfl
    have k0 : w4.frozen? ⟨w.heap.size, 0, none⟩ = false := frozen_of_row _ _ _ _ _ B4.out
    have d1 : w4.cell? ⟨w.heap.size, 1, none⟩ = some (.int .u32 0) := by rw [cell_of_row _ _ _ _ _ _ B4.out]; rfl
    have k1 : w4.frozen? ⟨w.heap.size, 1, none⟩ = false := frozen_of_row _ _ _ _ _ B4.out
    have d2 : w4.cell? ⟨w.heap.size, 2, none⟩ = some (.int .u8 0) := by rw [cell_of_row _ _ _ _ _ _ B4.out]; rfl
    have k2 : w4.frozen? ⟨w.heap.size, 2, none⟩ = false := frozen_of_row _ _ _ _ _ B4.out
    have d3 : w4.cell? ⟨w.heap.size, 3, none⟩ = some (.int .u32 0) := by rw [cell_of_row _ _ _ _ _ _ B4.out]; rfl
    have k3 : w4.frozen? ⟨w.heap.size, 3, none⟩ = false := frozen_of_row _ _ _ _ _ B4.out
    have d4 : w4.cell? ⟨w.heap.size, 4, none⟩ = some (.int .u64 0) := by rw [cell_of_row _ _ _ _ _ _ B4.out]; rfl
    have k4 : w4.frozen? ⟨w.heap.size, 4, none⟩ = false := frozen_of_row _ _ _ _ _ B4.out
    have d5 : w4.cell? ⟨w.heap.size, 5, none⟩ = some (.int .u32 0) := by rw [cell_of_row _ _ _ _ _ _ B4.out]; rfl
    have k5 : w4.frozen? ⟨w.heap.size, 5, none⟩ = false := frozen_of_row _ _ _ _ _ B4.out
    have d6 : w4.cell? ⟨w.heap.size, 6, none⟩ = some (.int .u32 0) := by rw [cell_of_row _ _ _ _ _ _ B4.out]; rfl
    have k6 : w4.frozen? ⟨w.heap.size, 6, none⟩ = false := frozen_of_row _ _ _ _ _ B4.out
    have d7 : w4.cell? ⟨w.heap.size, 7, none⟩ = some (.int .u32 0) := by rw [cell_of_row _ _ _ _ _ _ B4.out]; rfl
    have k7 : w4.frozen? ⟨w.heap.size, 7, none⟩ = false := frozen_of_row _ _ _ _ _ B4.out
    have d8 : w4.cell? ⟨w.heap.size, 8, none⟩ = some (.int .u64 0) := by rw [cell_of_row _ _ _ _ _ _ B4.out]; rfl
    have k8 : w4.frozen? ⟨w.heap.size, 8, none⟩ = false := frozen_of_row _ _ _ _ _ B4.out
    have d9 : w4.cell? ⟨w.heap.size, 9, none⟩ = some (.string ⟨#[]⟩) := by rw [cell_of_row _ _ _ _ _ _ B4.out]; rfl
    have k9 : w4.frozen? ⟨w.heap.size, 9, none⟩ = false := frozen_of_row _ _ _ _ _ B4.out
    have d10 : w4.cell? ⟨w.heap.size, 10, none⟩ = some (.string ⟨#[]⟩) := by rw [cell_of_row _ _ _ _ _ _ B4.out]; rfl
    have k10 : w4.frozen? ⟨w.heap.size, 10, none⟩ = false := frozen_of_row _ _ _ _ _ B4.out
    have d11 : w4.cell? ⟨w.heap.size, 11, none⟩ = some (.string ⟨#[]⟩) := by rw [cell_of_row _ _ _ _ _ _ B4.out]; rfl
    have k11 : w4.frozen? ⟨w.heap.size, 11, none⟩ = false := frozen_of_row _ _ _ _ _ B4.out
    have d12 : w4.cell? ⟨w.heap.size, 12, none⟩ = some (.string ⟨#[]⟩) := by rw [cell_of_row _ _ _ _ _ _ B4.out]; rfl
    have k12 : w4.frozen? ⟨w.heap.size, 12, none⟩ = false := frozen_of_row _ _ _ _ _ B4.out
    go_wp2_with fail
    refine bodyPost_ret (v := .tuple #[.agg #[.int .u16 (s.typ : Int), .int .u32 (s.dev : Int), .int .u8 (s.qid.kind : Int), .int .u32 (s.qid.vers : Int), .int .u64 (s.qid.path : Int), .int .u32 (s.mode : Int), .int .u32 (s.atime : Int), .int .u32 (s.mtime : Int), .int .u64 (s.length : Int), .string s.name, .string s.uid, .string s.gid, .string s.muid], .int .i64 0]) (by simp [results, Tryz.results26, go_sem, d0, d1, d2, d3, d4, d5, d6, d7, d8, d9, d10, d11, d12]) rfl ?_
    have hM := (((((((((((((M4.out.setCell (p := ⟨w.heap.size, 0, none⟩) (Or.inr (Nat.le_refl _)) (.int .u16 (s.typ : Int))).setCell (p := ⟨w.heap.size, 1, none⟩) (Or.inr (Nat.le_refl _)) (.int .u32 (s.dev : Int))).setCell (p := ⟨w.heap.size, 2, none⟩) (Or.inr (Nat.le_refl _)) (.int .u8 (s.qid.kind : Int))).setCell (p := ⟨w.heap.size, 3, none⟩) (Or.inr (Nat.le_refl _)) (.int .u32 (s.qid.vers : Int))).setCell (p := ⟨w.heap.size, 4, none⟩) (Or.inr (Nat.le_refl _)) (.int .u64 (s.qid.path : Int))).setCell (p := ⟨w.heap.size, 5, none⟩) (Or.inr (Nat.le_refl _)) (.int .u32 (s.mode : Int))).setCell (p := ⟨w.heap.size, 6, none⟩) (Or.inr (Nat.le_refl _)) (.int .u32 (s.atime : Int))).setCell (p := ⟨w.heap.size, 7, none⟩) (Or.inr (Nat.le_refl _)) (.int .u32 (s.mtime : Int))).setCell (p := ⟨w.heap.size, 8, none⟩) (Or.inr (Nat.le_refl _)) (.int .u64 (s.length : Int))).setCell (p := ⟨w.heap.size, 9, none⟩) (Or.inr (Nat.le_refl _)) (.string s.name)).setCell (p := ⟨w.heap.size, 10, none⟩) (Or.inr (Nat.le_refl _)) (.string s.uid)).setCell (p := ⟨w.heap.size, 11, none⟩) (Or.inr (Nat.le_refl _)) (.string s.gid)).setCell (p := ⟨w.heap.size, 12, none⟩) (Or.inr (Nat.le_refl _)) (.string s.muid))
    rw [HEQ.out, if_neg (by simpa using HE.out)]
    exact ⟨rfl, hM⟩
  · have hb : (F.err != 0) = true := by simpa using he
    have HE := Lib.hid he
    clear he
    have d0 : w4.cell? ⟨w.heap.size, 0, none⟩ = some (.int .u16 0) := by rw [cell_of_row _ _ _ _ _ _ B4.out]; rfl
    have k0 : w4.frozen? ⟨w.heap.size, 0, none⟩ = false := frozen_of_row _ _ _ _ _ B4.out
    have d1 : w4.cell? ⟨w.heap.size, 1, none⟩ = some (.int .u32 0) := by rw [cell_of_row _ _ _ _ _ _ B4.out]; rfl
    have k1 : w4.frozen? ⟨w.heap.size, 1, none⟩ = false := frozen_of_row _ _ _ _ _ B4.out
    have d2 : w4.cell? ⟨w.heap.size, 2, none⟩ = some (.int .u8 0) := by rw [cell_of_row _ _ _ _ _ _ B4.out]; rfl
    have k2 : w4.frozen? ⟨w.heap.size, 2, none⟩ = false := frozen_of_row _ _ _ _ _ B4.out
    have d3 : w4.cell? ⟨w.heap.size, 3, none⟩ = some (.int .u32 0) := by rw [cell_of_row _ _ _ _ _ _ B4.out]; rfl
    have k3 : w4.frozen? ⟨w.heap.size, 3, none⟩ = false := frozen_of_row _ _ _ _ _ B4.out
    have d4 : w4.cell? ⟨w.heap.size, 4, none⟩ = some (.int .u64 0) := by rw [cell_of_row _ _ _ _ _ _ B4.out]; rfl
    have k4 : w4.frozen? ⟨w.heap.size, 4, none⟩ = false := frozen_of_row _ _ _ _ _ B4.out
    have d5 : w4.cell? ⟨w.heap.size, 5, none⟩ = some (.int .u32 0) := by rw [cell_of_row _ _ _ _ _ _ B4.out]; rfl
    have k5 : w4.frozen? ⟨w.heap.size, 5, none⟩ = false := frozen_of_row _ _ _ _ _ B4.out
    have d6 : w4.cell? ⟨w.heap.size, 6, none⟩ = some (.int .u32 0) := by rw [cell_of_row _ _ _ _ _ _ B4.out]; rfl
    have k6 : w4.frozen? ⟨w.heap.size, 6, none⟩ = false := frozen_of_row _ _ _ _ _ B4.out
    have d7 : w4.cell? ⟨w.heap.size, 7, none⟩ = some (.int .u32 0) := by rw [cell_of_row _ _ _ _ _ _ B4.out]; rfl
    have k7 : w4.frozen? ⟨w.heap.size, 7, none⟩ = false := frozen_of_row _ _ _ _ _ B4.out
    have d8 : w4.cell? ⟨w.heap.size, 8, none⟩ = some (.int .u64 0) := by rw [cell_of_row _ _ _ _ _ _ B4.out]; rfl
    have k8 : w4.frozen? ⟨w.heap.size, 8, none⟩ = false := frozen_of_row _ _ _ _ _ B4.out
    have d9 : w4.cell? ⟨w.heap.size, 9, none⟩ = some (.string ⟨#[]⟩) := by rw [cell_of_row _ _ _ _ _ _ B4.out]; rfl
    have k9 : w4.frozen? ⟨w.heap.size, 9, none⟩ = false := frozen_of_row _ _ _ _ _ B4.out
    have d10 : w4.cell? ⟨w.heap.size, 10, none⟩ = some (.string ⟨#[]⟩) := by rw [cell_of_row _ _ _ _ _ _ B4.out]; rfl
    have k10 : w4.frozen? ⟨w.heap.size, 10, none⟩ = false := frozen_of_row _ _ _ _ _ B4.out
    have d11 : w4.cell? ⟨w.heap.size, 11, none⟩ = some (.string ⟨#[]⟩) := by rw [cell_of_row _ _ _ _ _ _ B4.out]; rfl
    have k11 : w4.frozen? ⟨w.heap.size, 11, none⟩ = false := frozen_of_row _ _ _ _ _ B4.out
    have d12 : w4.cell? ⟨w.heap.size, 12, none⟩ = some (.string ⟨#[]⟩) := by rw [cell_of_row _ _ _ _ _ _ B4.out]; rfl
    have k12 : w4.frozen? ⟨w.heap.size, 12, none⟩ = false := frozen_of_row _ _ _ _ _ B4.out
    go_wp2_with fail
    refine bodyPost_ret (v := .tuple #[.agg #[.int .u16 0, .int .u32 0, .int .u8 0, .int .u32 0, .int .u64 0, .int .u32 0, .int .u32 0, .int .u32 0, .int .u64 0, .string ⟨#[]⟩, .string ⟨#[]⟩, .string ⟨#[]⟩, .string ⟨#[]⟩], .int .i64 20]) (by simp [results, Tryz.results26, go_sem, d0, d1, d2, d3, d4, d5, d6, d7, d8, d9, d10, d11, d12]) rfl ?_
    have hM := (((((((((((((M4.out.setCell (p := ⟨w.heap.size, 0, none⟩) (Or.inr (Nat.le_refl _)) (.int .u16 0)).setCell (p := ⟨w.heap.size, 1, none⟩) (Or.inr (Nat.le_refl _)) (.int .u32 0)).setCell (p := ⟨w.heap.size, 2, none⟩) (Or.inr (Nat.le_refl _)) (.int .u8 0)).setCell (p := ⟨w.heap.size, 3, none⟩) (Or.inr (Nat.le_refl _)) (.int .u32 0)).setCell (p := ⟨w.heap.size, 4, none⟩) (Or.inr (Nat.le_refl _)) (.int .u64 0)).setCell (p := ⟨w.heap.size, 5, none⟩) (Or.inr (Nat.le_refl _)) (.int .u32 0)).setCell (p := ⟨w.heap.size, 6, none⟩) (Or.inr (Nat.le_refl _)) (.int .u32 0)).setCell (p := ⟨w.heap.size, 7, none⟩) (Or.inr (Nat.le_refl _)) (.int .u32 0)).setCell (p := ⟨w.heap.size, 8, none⟩) (Or.inr (Nat.le_refl _)) (.int .u64 0)).setCell (p := ⟨w.heap.size, 9, none⟩) (Or.inr (Nat.le_refl _)) (.string ⟨#[]⟩)).setCell (p := ⟨w.heap.size, 10, none⟩) (Or.inr (Nat.le_refl _)) (.string ⟨#[]⟩)).setCell (p := ⟨w.heap.size, 11, none⟩) (Or.inr (Nat.le_refl _)) (.string ⟨#[]⟩)).setCell (p := ⟨w.heap.size, 12, none⟩) (Or.inr (Nat.le_refl _)) (.string ⟨#[]⟩))
    rw [HEQ.out, if_pos HE.out]
    exact ⟨rfl, hM⟩
end Go.Proofs.YtnpokdbpmnkbjaaGreatDoor
namespace Go.Proofs.YtnpokdbpmnkbjaaGreatDoor
open Go.RowKit Me

theorem weight_any (s : StatP) (w : World) (hs : s.size ≤ 600000000000000) :
    Calls Tryz.prog 7 #[.agg (statV s)] w fun e w' => e = .returned (.int .i64 (s.size : Int)) ∧ Mods [] w w' := by
  obtain ⟨typ, dev, ⟨kind, vers, path⟩, mode, atime, mtime, length, name, uid, gid, muid⟩ := s
  simp only [StatP.size] at hs
  simp only [StatP.size, statV]
  go_enter Tryz.func7, Tryz.ntmps7
  go_wp2_with fail
  go_ret
  exact ⟨by simp, (Mods.refl _ _).alloc _⟩
end Go.Proofs.YtnpokdbpmnkbjaaGreatDoor
