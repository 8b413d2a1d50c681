/- stat.Encode. -/
import Derived.Test.YtedddekkbgaolaaDoorSp
namespace Go.Proofs.YtedddekkbgaolaaDoor
open Go.RowKit Me

theorem firstErr_append (a b : List ByteArray) : firstErr (a ++ b) = if firstErr a ≠ 0 then firstErr a else firstErr b := by
  induction a with
  | nil => simp [firstErr]
  | cons t r ih =>
    simp only [List.cons_append, firstErr, ih]
    by_cases h : textErr t = 0 <;> simp [h]
theorem firstErr_here {l : List ByteArray} {k : Nat} (hk : k < l.length) (h0 : firstErr (l.take k) = 0) (h : textErr l[k] ≠ 0) : firstErr l = textErr l[k] := by
  have e : firstErr l = firstErr (l.take k ++ (l[k] :: l.drop (k + 1))) := by rw [← List.drop_eq_getElem_cons hk, List.take_append_drop]
  rw [e, firstErr_append, if_neg (by omega)]
  simp only [firstErr]
  rw [if_pos (by simpa using h)]
theorem firstErr_next {l : List ByteArray} {k : Nat} (hk : k < l.length) (h0 : firstErr (l.take k) = 0) (h : textErr l[k] = 0) : firstErr (l.take (k + 1)) = 0 := by
  rw [List.take_succ_eq_append_getElem hk, firstErr_append, if_neg (by omega)]
  simp [firstErr, h]
theorem encode_bad {s : StatP} {e : Nat} (h : s.err = e) (he : e ≠ 0) : s.encode = ([], e) := by
  unfold StatP.encode
  rw [h, if_pos he]
theorem encode_good {s : StatP} (h : s.err = 0) : s.encode = (s.enc, 0) := by
  unfold StatP.encode
  rw [h, if_neg (by omega)]
theorem new_stat_done {s : StatP} (h : s.err = 0) : ((WSt.new s.size).stat s).done = (s.enc, 0) := by
  rw [WSt.stat_fits (S := WSt.new s.size) rfl h (by simp [WSt.new])]
  simp [WSt.lay, WSt.new, WSt.done]
def RelEnc (w : World) (b c : Nat) (s : StatP) (l : List ByteArray) (i : Value) (wr : World) : Prop :=
  ∃ k : Nat, k ≤ 4 ∧ i = .int .i64 k ∧ firstErr (l.take k) = 0 ∧ Mods [] w wr ∧ wr.heap[b]? = some (.cells (statV s) 90 (0, 0)) ∧ wr.heap[c]? = some (.cells (l.map Value.string).toArray 9 (0, 0)) ∧ Lib.Utf8Tabs 0 1 wr
def EncPost (w : World) (r : List UInt8 × Nat) (e : Ending) (w' : World) : Prop :=
  ∃ v, e = .returned (.tuple #[v, .int .i64 (r.2 : Int)]) ∧ w'.ownsRow w.heap.size 5 1 v r.1.length (r.1.map byteV) ∧ Mods [] w w'
theorem EncPost.none {w w' : World} {e : Nat} {r : List UInt8 × Nat} (hr : r = ([], e)) (hm : Mods [] w w') : EncPost w r (.returned (.tuple #[.slice none 0 0, .int .i64 (e : Int)])) w' := by
  subst hr
  exact ⟨_, rfl, World.ownsRow_nil _ _ _ _, hm⟩
set_option maxRecDepth 100000 in
set_option maxHeartbeats 1000000 in
theorem encode_any {w : World} (hT : Lib.Utf8Tabs 0 1 w) (s : StatP) (hs : s.Fits) (hz : s.size ≤ 600000000000000) :
    Calls Tryd.prog 56 #[.agg (statV s)] w (EncPost w s.encode) := by
  have h2 := tabs_two hT
  have B0 := Lib.hid (heap_alloc_new w (.cells (statV s) 90))
  have M0 := Lib.hid ((Mods.refl [] w).alloc (.cells (statV s) 90))
  have HS := Lib.hid hs
  clear hs
  have c9 : (w.alloc (.cells (statV s) 90)).cell? ⟨w.heap.size, 9, none⟩ = some (.string s.name) := by rw [cell_of_row _ _ _ _ _ _ B0.out]; rfl
  have c10 : (w.alloc (.cells (statV s) 90)).cell? ⟨w.heap.size, 10, none⟩ = some (.string s.uid) := by rw [cell_of_row _ _ _ _ _ _ B0.out]; rfl
  have c11 : (w.alloc (.cells (statV s) 90)).cell? ⟨w.heap.size, 11, none⟩ = some (.string s.gid) := by rw [cell_of_row _ _ _ _ _ _ B0.out]; rfl
  have c12 : (w.alloc (.cells (statV s) 90)).cell? ⟨w.heap.size, 12, none⟩ = some (.string s.muid) := by rw [cell_of_row _ _ _ _ _ _ B0.out]; rfl
  have b1 := heap_alloc_new (w.alloc (.cells (statV s) 90)) (.cells #[.string s.name, .string s.uid, .string s.gid, .string s.muid] 9)
  rw [World.size_alloc] at b1
  have B1 := Lib.hid b1
  clear b1
  have M1 := Lib.hid (M0.out.alloc (.cells #[.string s.name, .string s.uid, .string s.gid, .string s.muid] 9))
  have B2 := Lib.hid ((Go.heap_alloc_old (w.alloc (.cells (statV s) 90)) (.cells #[.string s.name, .string s.uid, .string s.gid, .string s.muid] 9) (by simp)).trans B0.out)
  have T1 := Lib.hid (tabs_mods M1.out hT)
  clear B0 M0 hT
  go_enter Tryd.func56, Tryd.ntmps56
  go_wp2_with fail
  clear c9 c10 c11 c12
  have hl4 : s.texts.length = 4 := rfl
  have HL := Lib.hid hl4
  have hlm : (#[.string s.name, .string s.uid, .string s.gid, .string s.muid] : Array Value) = (s.texts.map Value.string).toArray := rfl
  have HLM := Lib.hid hlm
  have HZ := Lib.hid (fun t (ht : t ∈ s.texts) => texts_size s hz t ht)
  have HERR := Lib.hid (show s.err = if firstErr s.texts ≠ 0 then firstErr s.texts else if 65535 < s.size - 2 then 13 else 0 from rfl)
  clear hl4 hlm
  generalize s.texts = l at *
  generalize w.heap.size + 1 = c at *
  generalize hb : w.heap.size = b at *
  have HB := Lib.hid hb
  clear hb
  go_loopw [18] (fun i wr => RelEnc w b c s l i wr) (fun i _ => 4 - (intOf i).toNat)
  case atStart => exact ⟨0, by omega, rfl, rfl, M1.out, B2.out, by rw [← HLM.out]; exact B1.out, T1.out⟩
  case round =>
    obtain ⟨k, hk, rfl, hf, hm, hbb, hcc, ht⟩ := hrel
    have HF := Lib.hid hf
    have HM := Lib.hid hm
    have HBB := Lib.hid hbb
    have HCC := Lib.hid hcc
    have HT := Lib.hid ht
    clear hf hm hbb hcc ht M1 B1 B2 T1
    rcases Nat.lt_or_ge k 4 with hlt | hge
    · have hlk : k < l.length := by have := HL.out; omega
      have hc0 : wr.cell? ⟨c, k, none⟩ = some (.string l[k]) := by rw [cell_of_row _ _ _ _ _ _ HCC.out]; simp [hlk]
      have HH := Lib.hid (fun h => firstErr_here hlk HF.out h)
      have HN := Lib.hid (fun h => firstErr_next hlk HF.out h)
      have hzk := HZ.out l[k] (by simp)
      generalize l[k] = t at *
      have HZK := Lib.hid hzk
      unfold maxLen at hzk
      by_cases h6 : 65535 < t.size
      · have hte : textErr t = 13 := by unfold textErr; rw [if_pos h6]
        have hfe := HH.out (by omega)
        have HE := Lib.hid (encode_bad (s := s) (e := 13) (by rw [HERR.out, hfe, hte]; rfl) (by omega))
        clear hte hfe
        go_wp2_with fail
        go_ret2
        exact EncPost.none HE.out HM.out
      · by_cases hg : Tx.good t.data.toList = true
        · have hte : textErr t = 0 := by unfold textErr; rw [if_neg h6, if_pos hg]
          have HN1 := Lib.hid (HN.out hte)
          have HG := Lib.hid (good_is t true wr HZK.out HT.out hg)
          clear hte hg
          go_wp2_with fail
          refine HG.out.mono ?_; rintro e w1 ⟨rfl, hb1⟩
          have hm1 := below_mods hb1
          have HM1 := Lib.hid (HM.out.trans hm1 (by simp))
          have HB1 := Lib.hid (hm1.heap HBB.out (by simp))
          have HC1 := Lib.hid (hm1.heap HCC.out (by simp))
          have HT1 := Lib.hid (tabs_mods hm1 HT.out)
          clear hb1 hm1 hc0
          go_wp2_with fail
          exact ⟨⟨k + 1, by omega, rfl, HN1.out, HM1.out, HB1.out, HC1.out, HT1.out⟩, by simp only [intOf]; omega⟩
        · have hte : textErr t = 12 := by unfold textErr; rw [if_neg h6, if_neg hg]
          have hfe := HH.out (by omega)
          have HE := Lib.hid (encode_bad (s := s) (e := 12) (by rw [HERR.out, hfe, hte]; rfl) (by omega))
          have HG := Lib.hid (good_is t false wr HZK.out HT.out (by simpa using hg))
          clear hte hg hfe
          go_wp2_with fail
          refine HG.out.mono ?_; rintro e w1 ⟨rfl, hb1⟩
          have HM1 := Lib.hid (HM.out.trans (below_mods hb1) (by simp))
          clear hb1 hc0
          go_wp2_with fail
          go_ret2
          exact EncPost.none HE.out HM1.out
    · obtain rfl : k = 4 := by omega
      have hf0 : firstErr l = 0 := by have := HF.out; rwa [List.take_of_length_le (by have := HL.out; omega)] at this
      have herr := HERR.out
      rw [hf0, if_neg (by omega)] at herr
      have HER := Lib.hid herr
      clear hf0 herr
      clear hk hge
      have c0 : wr.cell? ⟨b, 0, none⟩ = some (.int .u16 (s.typ : Int)) := by rw [cell_of_row _ _ _ _ _ _ HBB.out]; rfl
      have c1 : wr.cell? ⟨b, 1, none⟩ = some (.int .u32 (s.dev : Int)) := by rw [cell_of_row _ _ _ _ _ _ HBB.out]; rfl
      have c2 : wr.cell? ⟨b, 2, none⟩ = some (.int .u8 (s.qid.kind : Int)) := by rw [cell_of_row _ _ _ _ _ _ HBB.out]; rfl
      have c3 : wr.cell? ⟨b, 3, none⟩ = some (.int .u32 (s.qid.vers : Int)) := by rw [cell_of_row _ _ _ _ _ _ HBB.out]; rfl
      have c4 : wr.cell? ⟨b, 4, none⟩ = some (.int .u64 (s.qid.path : Int)) := by rw [cell_of_row _ _ _ _ _ _ HBB.out]; rfl
      have c5 : wr.cell? ⟨b, 5, none⟩ = some (.int .u32 (s.mode : Int)) := by rw [cell_of_row _ _ _ _ _ _ HBB.out]; rfl
      have c6 : wr.cell? ⟨b, 6, none⟩ = some (.int .u32 (s.atime : Int)) := by rw [cell_of_row _ _ _ _ _ _ HBB.out]; rfl
      have c7 : wr.cell? ⟨b, 7, none⟩ = some (.int .u32 (s.mtime : Int)) := by rw [cell_of_row _ _ _ _ _ _ HBB.out]; rfl
      have c8 : wr.cell? ⟨b, 8, none⟩ = some (.int .u64 (s.length : Int)) := by rw [cell_of_row _ _ _ _ _ _ HBB.out]; rfl
      have c9 : wr.cell? ⟨b, 9, none⟩ = some (.string s.name) := by rw [cell_of_row _ _ _ _ _ _ HBB.out]; rfl
      have c10 : wr.cell? ⟨b, 10, none⟩ = some (.string s.uid) := by rw [cell_of_row _ _ _ _ _ _ HBB.out]; rfl
      have c11 : wr.cell? ⟨b, 11, none⟩ = some (.string s.gid) := by rw [cell_of_row _ _ _ _ _ _ HBB.out]; rfl
      have c12 : wr.cell? ⟨b, 12, none⟩ = some (.string s.muid) := by rw [cell_of_row _ _ _ _ _ _ HBB.out]; rfl
      by_cases h6 : 65535 < s.size - 2
      · have HE := Lib.hid (encode_bad (s := s) (e := 13) (by rw [HER.out, if_pos h6]) (by omega))
        go_wp2_with fail
        refine (size_any s _ hz).mono ?_; rintro e w1 ⟨rfl, hm1⟩
        have HM1 := Lib.hid (HM.out.trans hm1 (by simp))
        clear hm1 c0 c1 c2 c3 c4 c5 c6 c7 c8 c9 c10 c11 c12
        go_wp2_with fail
        go_ret2
        exact EncPost.none HE.out HM1.out
      · have h0 : s.err = 0 := by rw [HER.out, if_neg h6]
        have H0 := Lib.hid h0
        have h7 : (s.size : Int) - 2 ≤ 65535 := by omega
        have h8 : s.size ≤ 70000 := by omega
        clear h0 h6
        go_wp2_with fail
        refine (size_any s _ hz).mono ?_; rintro e w1 ⟨rfl, hm1⟩
        have HM1 := Lib.hid (HM.out.trans hm1 (by simp))
        have HB1 := Lib.hid (hm1.heap HBB.out (by simp))
        have HT1 := Lib.hid (tabs_mods hm1 HT.out)
        clear hm1 c0 c1 c2 c3 c4 c5 c6 c7 c8 c9 c10 c11 c12
        have c0 : w1.cell? ⟨b, 0, none⟩ = some (.int .u16 (s.typ : Int)) := by rw [cell_of_row _ _ _ _ _ _ HB1.out]; rfl
        have c1 : w1.cell? ⟨b, 1, none⟩ = some (.int .u32 (s.dev : Int)) := by rw [cell_of_row _ _ _ _ _ _ HB1.out]; rfl
        have c2 : w1.cell? ⟨b, 2, none⟩ = some (.int .u8 (s.qid.kind : Int)) := by rw [cell_of_row _ _ _ _ _ _ HB1.out]; rfl
        have c3 : w1.cell? ⟨b, 3, none⟩ = some (.int .u32 (s.qid.vers : Int)) := by rw [cell_of_row _ _ _ _ _ _ HB1.out]; rfl
        have c4 : w1.cell? ⟨b, 4, none⟩ = some (.int .u64 (s.qid.path : Int)) := by rw [cell_of_row _ _ _ _ _ _ HB1.out]; rfl
        have c5 : w1.cell? ⟨b, 5, none⟩ = some (.int .u32 (s.mode : Int)) := by rw [cell_of_row _ _ _ _ _ _ HB1.out]; rfl
        have c6 : w1.cell? ⟨b, 6, none⟩ = some (.int .u32 (s.atime : Int)) := by rw [cell_of_row _ _ _ _ _ _ HB1.out]; rfl
        have c7 : w1.cell? ⟨b, 7, none⟩ = some (.int .u32 (s.mtime : Int)) := by rw [cell_of_row _ _ _ _ _ _ HB1.out]; rfl
        have c8 : w1.cell? ⟨b, 8, none⟩ = some (.int .u64 (s.length : Int)) := by rw [cell_of_row _ _ _ _ _ _ HB1.out]; rfl
        have c9 : w1.cell? ⟨b, 9, none⟩ = some (.string s.name) := by rw [cell_of_row _ _ _ _ _ _ HB1.out]; rfl
        have c10 : w1.cell? ⟨b, 10, none⟩ = some (.string s.uid) := by rw [cell_of_row _ _ _ _ _ _ HB1.out]; rfl
        have c11 : w1.cell? ⟨b, 11, none⟩ = some (.string s.gid) := by rw [cell_of_row _ _ _ _ _ _ HB1.out]; rfl
        have c12 : w1.cell? ⟨b, 12, none⟩ = some (.string s.muid) := by rw [cell_of_row _ _ _ _ _ _ HB1.out]; rfl
        go_wp2_with fail
        refine (size_any s _ hz).mono ?_; rintro e w2 ⟨rfl, hm2⟩
        have HM2 := Lib.hid (HM1.out.trans hm2 (by simp))
        have HB2 := Lib.hid (hm2.heap HB1.out (by simp))
        have HT2 := Lib.hid (tabs_mods hm2 HT1.out)
        clear hm2 c0 c1 c2 c3 c4 c5 c6 c7 c8 c9 c10 c11 c12
        go_wp2_with fail
        refine (newWriter_ok s.size w2 (by omega)).mono ?_; rintro e w3 ⟨rfl, hw, hm3⟩
        have hge : b ≤ w2.heap.size := by rw [← HB.out]; exact HM2.out.size
        have HW3 := Lib.hid hw
        have HM3 := Lib.hid (HM2.out.trans hm3 (by simp))
        have HB3 := Lib.hid (hm3.heap HB2.out (by simp))
        have HT3 := Lib.hid (tabs_mods hm3 HT2.out)
        clear hw hm3
        generalize w2.heap.size = a at *
        have c0 : w3.cell? ⟨b, 0, none⟩ = some (.int .u16 (s.typ : Int)) := by rw [cell_of_row _ _ _ _ _ _ HB3.out]; rfl
        have c1 : w3.cell? ⟨b, 1, none⟩ = some (.int .u32 (s.dev : Int)) := by rw [cell_of_row _ _ _ _ _ _ HB3.out]; rfl
        have c2 : w3.cell? ⟨b, 2, none⟩ = some (.int .u8 (s.qid.kind : Int)) := by rw [cell_of_row _ _ _ _ _ _ HB3.out]; rfl
        have c3 : w3.cell? ⟨b, 3, none⟩ = some (.int .u32 (s.qid.vers : Int)) := by rw [cell_of_row _ _ _ _ _ _ HB3.out]; rfl
        have c4 : w3.cell? ⟨b, 4, none⟩ = some (.int .u64 (s.qid.path : Int)) := by rw [cell_of_row _ _ _ _ _ _ HB3.out]; rfl
        have c5 : w3.cell? ⟨b, 5, none⟩ = some (.int .u32 (s.mode : Int)) := by rw [cell_of_row _ _ _ _ _ _ HB3.out]; rfl
        have c6 : w3.cell? ⟨b, 6, none⟩ = some (.int .u32 (s.atime : Int)) := by rw [cell_of_row _ _ _ _ _ _ HB3.out]; rfl
        have c7 : w3.cell? ⟨b, 7, none⟩ = some (.int .u32 (s.mtime : Int)) := by rw [cell_of_row _ _ _ _ _ _ HB3.out]; rfl
        have c8 : w3.cell? ⟨b, 8, none⟩ = some (.int .u64 (s.length : Int)) := by rw [cell_of_row _ _ _ _ _ _ HB3.out]; rfl
        have c9 : w3.cell? ⟨b, 9, none⟩ = some (.string s.name) := by rw [cell_of_row _ _ _ _ _ _ HB3.out]; rfl
        have c10 : w3.cell? ⟨b, 10, none⟩ = some (.string s.uid) := by rw [cell_of_row _ _ _ _ _ _ HB3.out]; rfl
        have c11 : w3.cell? ⟨b, 11, none⟩ = some (.string s.gid) := by rw [cell_of_row _ _ _ _ _ _ HB3.out]; rfl
        have c12 : w3.cell? ⟨b, 12, none⟩ = some (.string s.muid) := by rw [cell_of_row _ _ _ _ _ _ HB3.out]; rfl
        have hft : ∀ k ∈ foot a (.slice none 0 0) (.slice none 0 0), k = a := by simp [foot, Value.ownBlock]
        have HFT := Lib.hid hft
        clear hft
        go_wp2_with fail
        refine (put_any HW3.out (fun k hk => by have := HFT.out k hk; omega) HT3.out s HS.out hz).mono ?_; rintro e w4 ⟨rfl, vb, vo, hw, hm4, hft⟩
        have HW4 := Lib.hid hw
        have HM4 := Lib.hid (HM3.out.trans hm4 (fun k hk => Or.inr (by have := HFT.out k hk; rw [HB.out]; omega)))
        clear hw hm4 hft c0 c1 c2 c3 c4 c5 c6 c7 c8 c9 c10 c11 c12
        go_wp2_with fail
        refine (done_any HW4.out).mono ?_; rintro e w5 ⟨v, rfl, ho, hm5⟩
        rw [new_stat_done H0.out] at ho ⊢
        obtain ⟨A, cc, rfl⟩ := own_ctor ho
        have HO := Lib.hid ho
        have HM5 := Lib.hid (HM4.out.trans hm5 (by simp))
        clear ho hm5
        go_wp2_with fail
        go_ret2
        rw [encode_good H0.out]
        exact ⟨_, rfl, ownsRow_base HO.out HM4.out.size, HM5.out⟩
end Go.Proofs.YtedddekkbgaolaaDoor
