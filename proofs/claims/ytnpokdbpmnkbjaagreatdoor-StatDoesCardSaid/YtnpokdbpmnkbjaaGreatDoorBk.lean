/- vergerref02 Size, Encode (printed by wip/bin/genrenc.py); the walk of StatBack (printed by wip/bin/genback.py). -/
import Derived.Test.YtnpokdbpmnkbjaaGreatDoorAw
import Derived.Test.YtnpokdbpmnkbjaaGreatDoorVw
import Derived.Test.YtnpokdbpmnkbjaaGreatDoorCg
namespace Go.Proofs.YtnpokdbpmnkbjaaGreatDoor
open Go.RowKit Me

set_option maxHeartbeats 1000000 in
theorem rsize_any (s : StatP) (w : World) (hs : s.size ≤ 600000000000000) :
    Calls Tryz.prog 23 #[.agg (statV s)] w fun e w' => e = .returned (.int .i64 (s.size : Int)) ∧ Mods [] w w' := by
  obtain ⟨typ, dev, ⟨kind, vers, path⟩, mode, atime, mtime, length, name, uid, gid, muid⟩ := s
  simp only [StatP.size] at hs
  simp only [StatP.size, statV]
  go_enter Tryz.func23, Tryz.ntmps23
  go_wp2_with fail
  go_ret
  exact ⟨by simp, (Mods.refl _ _).alloc _⟩
theorem num1_any {B : Nat} {w : World} {v : Value} (L : List UInt8) (hv : w.ownsRow B 5 1 v L.length (L.map byteV)) (hB : B ≤ w.heap.size) (n : Nat) (hL : L.length ≤ 100000000) (hn : n < 18446744073709551616) :
    Calls Tryz.prog 74 #[v, .int .u64 (n : Int), .int .i64 1] w (NumPost B w v (L ++ le n 1)) := num_any L hv hB n 1 (by omega) hL hn
theorem num2_any {B : Nat} {w : World} {v : Value} (L : List UInt8) (hv : w.ownsRow B 5 1 v L.length (L.map byteV)) (hB : B ≤ w.heap.size) (n : Nat) (hL : L.length ≤ 100000000) (hn : n < 18446744073709551616) :
    Calls Tryz.prog 74 #[v, .int .u64 (n : Int), .int .i64 2] w (NumPost B w v (L ++ le n 2)) := num_any L hv hB n 2 (by omega) hL hn
theorem num4_any {B : Nat} {w : World} {v : Value} (L : List UInt8) (hv : w.ownsRow B 5 1 v L.length (L.map byteV)) (hB : B ≤ w.heap.size) (n : Nat) (hL : L.length ≤ 100000000) (hn : n < 18446744073709551616) :
    Calls Tryz.prog 74 #[v, .int .u64 (n : Int), .int .i64 4] w (NumPost B w v (L ++ le n 4)) := num_any L hv hB n 4 (by omega) hL hn
theorem num8_any {B : Nat} {w : World} {v : Value} (L : List UInt8) (hv : w.ownsRow B 5 1 v L.length (L.map byteV)) (hB : B ≤ w.heap.size) (n : Nat) (hL : L.length ≤ 100000000) (hn : n < 18446744073709551616) :
    Calls Tryz.prog 74 #[v, .int .u64 (n : Int), .int .i64 8] w (NumPost B w v (L ++ le n 8)) := num_any L hv hB n 8 (by omega) hL hn
def StatP.nums (s : StatP) : List UInt8 := le (s.size - 2) 2 ++ le s.typ 2 ++ le s.dev 4 ++ le s.qid.kind 1 ++ le s.qid.vers 4 ++ le s.qid.path 8 ++ le s.mode 4 ++ le s.atime 4 ++ le s.mtime 4 ++ le s.length 8
def txts (l : List ByteArray) : List UInt8 := l.flatMap fun t => txt t.data.toList
theorem enc_eq (s : StatP) : s.enc = s.nums ++ txts s.texts := by
  have h := s.body_length
  simp only [StatP.enc, txt, StatP.nums, txts, StatP.texts, List.flatMap_cons, List.flatMap_nil, List.append_nil, StatP.body, List.append_assoc]
  rw [show s.size - 2 = s.body.length by omega]
  simp only [StatP.body, txt, List.append_assoc]
theorem txts_next {l : List ByteArray} {k : Nat} (hk : k < l.length) (N : List UInt8) : N ++ txts (l.take (k + 1)) = N ++ txts (l.take k) ++ le l[k].size 2 ++ l[k].data.toList := by
  rw [List.take_succ_eq_append_getElem hk]
  simp only [txts, List.flatMap_append, List.flatMap_cons, List.flatMap_nil, List.append_nil, txt, List.append_assoc, size_list]
theorem txts_length_le (s : StatP) (k : Nat) : (txts (s.texts.take k)).length ≤ s.size := by
  have e : txts s.texts = txts (s.texts.take k) ++ txts (s.texts.drop k) := by
    rw [txts, txts, txts, ← List.flatMap_append, List.take_append_drop]
  have := s.enc_length
  rw [enc_eq, e] at this
  simp only [List.length_append] at this
  omega
theorem texts_small (s : StatP) : ∀ t ∈ s.texts, t.size ≤ s.size := by
  intro t ht
  simp only [StatP.texts, List.mem_cons, List.not_mem_nil, or_false] at ht
  simp only [StatP.size]
  rcases ht with rfl | rfl | rfl | rfl <;> omega
theorem grew_nil (B : Nat) (w : World) : Grew B w (.slice none 0 0) [] (.slice none 0 0) w := ⟨World.ownsRow_nil _ _ _ _, Mods.refl _ _, Or.inl rfl⟩
def RelOk (l : List ByteArray) (w1 : World) (i : Value) (wr : World) : Prop := ∃ k : Nat, k ≤ 4 ∧ i = .int .i64 k ∧ firstErr (l.take k) = 0 ∧ w1 = wr
def RelTxt (B : Nat) (w1 : World) (N : List UInt8) (l : List ByteArray) (v i : Value) (wr : World) : Prop :=
  ∃ k : Nat, k ≤ 4 ∧ i = .int .i64 k ∧ Grew B w1 (.slice none 0 0) (N ++ txts (l.take k)) v wr
set_option maxRecDepth 100000 in
set_option maxHeartbeats 2000000 in
theorem rencode_any {w : World} (s : StatP) (hs : s.Fits) (hz : s.size ≤ 268435456) :
    Calls Tryz.prog 22 #[.agg (statV s)] w (EncPost w s.encode) := by
  have B0 := Lib.hid (heap_alloc_new w (.cells (statV s) 35))
  have M0 := Lib.hid ((Mods.refl [] w).alloc (.cells (statV s) 35))
  have HS := Lib.hid hs
  obtain ⟨g1, g2, ⟨q1, q2, q3⟩, g3, g4, g5, g6⟩ := hs
  have HQ3 := Lib.hid q3
  have HG6 := Lib.hid g6
  clear q3 g6
  have c9 : (w.alloc (.cells (statV s) 35)).cell? ⟨w.heap.size, 9, none⟩ = some (.string s.name) := (cell_of_row _ _ _ _ _ _ B0.out).trans rfl
  have c10 : (w.alloc (.cells (statV s) 35)).cell? ⟨w.heap.size, 10, none⟩ = some (.string s.uid) := (cell_of_row _ _ _ _ _ _ B0.out).trans rfl
  have c11 : (w.alloc (.cells (statV s) 35)).cell? ⟨w.heap.size, 11, none⟩ = some (.string s.gid) := (cell_of_row _ _ _ _ _ _ B0.out).trans rfl
  have c12 : (w.alloc (.cells (statV s) 35)).cell? ⟨w.heap.size, 12, none⟩ = some (.string s.muid) := (cell_of_row _ _ _ _ _ _ B0.out).trans rfl
  have b1 := heap_alloc_new (w.alloc (.cells (statV s) 35)) (.cells #[.string s.name, .string s.uid, .string s.gid, .string s.muid] 9)
  rw [World.size_alloc] at b1
  have B1 := Lib.hid b1
  clear b1
  have M1 := Lib.hid (M0.out.alloc (.cells #[.string s.name, .string s.uid, .string s.gid, .string s.muid] 9))
  have B2 := Lib.hid ((Go.heap_alloc_old (w.alloc (.cells (statV s) 35)) (.cells #[.string s.name, .string s.uid, .string s.gid, .string s.muid] 9) (by simp)).trans B0.out)
  have hsz : ((w.alloc (.cells (statV s) 35)).alloc (.cells #[.string s.name, .string s.uid, .string s.gid, .string s.muid] 9)).heap.size = w.heap.size + 2 := by simp
  have HSZ := Lib.hid hsz
  clear B0 M0 hsz
  go_enter Tryz.func22, Tryz.ntmps22
  go_wp2_with fail
  clear c9 c10 c11 c12
  have hl4 : s.texts.length = 4 := rfl
  have HL := Lib.hid hl4
  have hlm : (#[.string s.name, .string s.uid, .string s.gid, .string s.muid] : Array Value) = (s.texts.map Value.string).toArray := rfl
  have HLM := Lib.hid hlm
  have HZ := Lib.hid (fun t (ht : t ∈ s.texts) => texts_small s t ht)
  have HERR := Lib.hid (show s.err = if firstErr s.texts ≠ 0 then firstErr s.texts else if 65535 < s.size - 2 then 13 else 0 from rfl)
  have HTL := Lib.hid (fun k => txts_length_le s k)
  have HENC := Lib.hid (enc_eq s)
  clear hl4 hlm
  generalize s.texts = l at *
  generalize (w.alloc (.cells (statV s) 35)).alloc (.cells #[.string s.name, .string s.uid, .string s.gid, .string s.muid] 9) = w1 at *
  rw [HLM.out] at B1
  clear HLM
  generalize w.heap.size + 1 = c at *
  generalize hb : w.heap.size = b at *
  have HB := Lib.hid hb
  clear hb
  go_loopw [5] (fun i wr => RelOk l w1 i wr) (fun i _ => 4 - (intOf i).toNat)
  case atStart => exact ⟨0, by omega, rfl, rfl, rfl⟩
  case round =>
    obtain ⟨k, hk, rfl, hf, rfl⟩ := hrel
    have HF := Lib.hid hf
    clear hf
    rcases Nat.lt_or_ge k 4 with hlt | hge
    · have hlk : k < l.length := by have := HL.out; omega
      have hc0 : w1.cell? ⟨c, k, none⟩ = some (.string l[k]) := by rw [cell_of_row _ _ _ _ _ _ B1.out]; simp [hlk]
      have HH := Lib.hid (fun h => firstErr_here hlk HF.out h)
      have HN := Lib.hid (fun h => firstErr_next hlk HF.out h)
      have hzk := HZ.out l[k] (by simp)
      generalize l[k] = t at *
      have hzk' : t.size ≤ 268435456 := by omega
      clear hzk
      have HG := Lib.hid (rgood_any t w1 (by omega))
      by_cases h6 : 65535 < t.size
      · have hte : textErr t = 13 := by unfold textErr; rw [if_pos h6]
        have hfe := HH.out (by omega)
        have HE := Lib.hid (encode_bad (s := s) (e := 13) (by rw [HERR.out, hfe, hte]; rfl) (by omega))
        clear hte hfe
        go_wp2_with fail
        refine HG.out.mono ?_; rintro e w2 ⟨rfl, rfl⟩
        generalize Tx.good t.data.toList = gd at *
        go_wp2_with fail
        go_ret2
        exact EncPost.none HE.out M1.out
      · by_cases hg : Tx.good t.data.toList = true
        · have hte : textErr t = 0 := by unfold textErr; rw [if_neg h6, if_pos hg]
          have HN1 := Lib.hid (HN.out hte)
          rw [hg] at HG
          clear hte hg
          go_wp2_with fail
          refine HG.out.mono ?_; rintro e w2 ⟨rfl, rfl⟩
          go_wp2_with fail
          exact ⟨⟨k + 1, by omega, rfl, HN1.out, rfl⟩, by simp only [intOf]; omega⟩
        · have hte : textErr t = 12 := by unfold textErr; rw [if_neg h6, if_neg hg]
          have hfe := HH.out (by omega)
          have HE := Lib.hid (encode_bad (s := s) (e := 12) (by rw [HERR.out, hfe, hte]; rfl) (by omega))
          rw [show Tx.good t.data.toList = false by simpa using hg] at HG
          clear hte hg hfe
          go_wp2_with fail
          refine HG.out.mono ?_; rintro e w2 ⟨rfl, rfl⟩
          go_wp2_with fail
          go_ret2
          exact EncPost.none HE.out M1.out
    · obtain rfl : k = 4 := by omega
      have hf0 : firstErr l = 0 := by have := HF.out; rwa [List.take_of_length_le (by have := HL.out; omega)] at this
      have herr := HERR.out
      rw [hf0, if_neg (by omega)] at herr
      have HER := Lib.hid herr
      clear hf0 herr hk hge
      have c0 : (w1).cell? ⟨b, 0, none⟩ = some (.int .u16 (s.typ : Int)) := (cell_of_row _ _ _ _ _ _ B2.out).trans rfl
      have c1 : (w1).cell? ⟨b, 1, none⟩ = some (.int .u32 (s.dev : Int)) := (cell_of_row _ _ _ _ _ _ B2.out).trans rfl
      have c2 : (w1).cell? ⟨b, 2, none⟩ = some (.int .u8 (s.qid.kind : Int)) := (cell_of_row _ _ _ _ _ _ B2.out).trans rfl
      have c3 : (w1).cell? ⟨b, 3, none⟩ = some (.int .u32 (s.qid.vers : Int)) := (cell_of_row _ _ _ _ _ _ B2.out).trans rfl
      have c4 : (w1).cell? ⟨b, 4, none⟩ = some (.int .u64 (s.qid.path : Int)) := (cell_of_row _ _ _ _ _ _ B2.out).trans rfl
      have c5 : (w1).cell? ⟨b, 5, none⟩ = some (.int .u32 (s.mode : Int)) := (cell_of_row _ _ _ _ _ _ B2.out).trans rfl
      have c6 : (w1).cell? ⟨b, 6, none⟩ = some (.int .u32 (s.atime : Int)) := (cell_of_row _ _ _ _ _ _ B2.out).trans rfl
      have c7 : (w1).cell? ⟨b, 7, none⟩ = some (.int .u32 (s.mtime : Int)) := (cell_of_row _ _ _ _ _ _ B2.out).trans rfl
      have c8 : (w1).cell? ⟨b, 8, none⟩ = some (.int .u64 (s.length : Int)) := (cell_of_row _ _ _ _ _ _ B2.out).trans rfl
      have c9 : (w1).cell? ⟨b, 9, none⟩ = some (.string s.name) := (cell_of_row _ _ _ _ _ _ B2.out).trans rfl
      have c10 : (w1).cell? ⟨b, 10, none⟩ = some (.string s.uid) := (cell_of_row _ _ _ _ _ _ B2.out).trans rfl
      have c11 : (w1).cell? ⟨b, 11, none⟩ = some (.string s.gid) := (cell_of_row _ _ _ _ _ _ B2.out).trans rfl
      have c12 : (w1).cell? ⟨b, 12, none⟩ = some (.string s.muid) := (cell_of_row _ _ _ _ _ _ B2.out).trans rfl
      by_cases h6 : 65535 < s.size - 2
      · have HE := Lib.hid (encode_bad (s := s) (e := 13) (by rw [HER.out, if_pos h6]) (by omega))
        go_wp2_with fail
        refine (rsize_any s _ (by omega)).mono ?_; rintro e w2 ⟨rfl, hm2⟩
        have HM2 := Lib.hid (M1.out.trans hm2 (by simp))
        clear hm2 c0 c1 c2 c3 c4 c5 c6 c7 c8 c9 c10 c11 c12
        go_wp2_with fail
        go_ret2
        exact EncPost.none HE.out HM2.out
      · have h0 : s.err = 0 := by rw [HER.out, if_neg h6]
        have H0 := Lib.hid h0
        have h8 : s.size ≤ 65537 := by omega
        have h9 : 49 ≤ s.size := by unfold StatP.size; omega
        clear h0 h6
        go_wp2_with fail
        refine (rsize_any s _ (by omega)).mono ?_; rintro e w2 ⟨rfl, hm2⟩
        have HM2 := Lib.hid (M1.out.trans hm2 (by simp))
        have HB2 := Lib.hid (hm2.heap B2.out (by simp))
        have HC2 := Lib.hid (hm2.heap B1.out (by simp))
        have hB2 : b + 2 ≤ w2.heap.size := by have := hm2.size; rw [HSZ.out] at this; omega
        clear hm2 c0 c1 c2 c3 c4 c5 c6 c7 c8 c9 c10 c11 c12
        have hm : ∃ m : Nat, s.size = m + 2 ∧ m ≤ 65535 := ⟨s.size - 2, by omega, by omega⟩
        obtain ⟨m, hm, hm6⟩ := hm
        have HM := Lib.hid hm
        rw [hm]
        clear hm
        go_wp2_with fail
        have G0 := Lib.hid (grew_nil (b + 2) w2)
        refine (num2_any [] G0.out.1 (Nat.le_trans hB2 G0.out.2.1.size) m (by simp) (by omega)).mono ?_; rintro e w3 ⟨v1, rfl, hg⟩
        generalize hL : ([] : List UInt8) ++ le m 2 = L1 at *
        have E1 := Lib.hid hL
        have l1 : Hid (L1.length = 2) := Lib.hid (by rw [← hL, List.length_append, le_length]; rfl)
        have G1 := Lib.hid (G0.out.trans hg)
        obtain ⟨A1, a1, rfl⟩ := own_ctor hg.1
        clear hL hg
        have c0 : w3.cell? ⟨b, 0, none⟩ = some (.int .u16 (s.typ : Int)) := (cell_of_row _ _ _ _ _ _ (G1.out.2.1.heap HB2.out (by simp [Value.ownBlock]))).trans rfl
        go_wp2_with fail
        refine (num2_any L1 G1.out.1 (Nat.le_trans hB2 G1.out.2.1.size) s.typ (by have := l1.out; omega) (by omega)).mono ?_; rintro e w4 ⟨v2, rfl, hg⟩
        generalize hL : L1 ++ le s.typ 2 = L2 at *
        have E2 := Lib.hid hL
        have l2 : Hid (L2.length = 4) := Lib.hid (by rw [← hL, List.length_append, le_length, l1.out])
        have G2 := Lib.hid (G1.out.trans hg)
        obtain ⟨A2, a2, rfl⟩ := own_ctor hg.1
        clear hL hg
        have c1 : w4.cell? ⟨b, 1, none⟩ = some (.int .u32 (s.dev : Int)) := (cell_of_row _ _ _ _ _ _ (G2.out.2.1.heap HB2.out (by simp [Value.ownBlock]))).trans rfl
        clear c0
        go_wp2_with fail
        refine (num4_any L2 G2.out.1 (Nat.le_trans hB2 G2.out.2.1.size) s.dev (by have := l2.out; omega) (by omega)).mono ?_; rintro e w5 ⟨v3, rfl, hg⟩
        generalize hL : L2 ++ le s.dev 4 = L3 at *
        have E3 := Lib.hid hL
        have l3 : Hid (L3.length = 8) := Lib.hid (by rw [← hL, List.length_append, le_length, l2.out])
        have G3 := Lib.hid (G2.out.trans hg)
        obtain ⟨A3, a3, rfl⟩ := own_ctor hg.1
        clear hL hg
        have c2 : w5.cell? ⟨b, 2, none⟩ = some (.int .u8 (s.qid.kind : Int)) := (cell_of_row _ _ _ _ _ _ (G3.out.2.1.heap HB2.out (by simp [Value.ownBlock]))).trans rfl
        clear c1
        go_wp2_with fail
        refine (num1_any L3 G3.out.1 (Nat.le_trans hB2 G3.out.2.1.size) s.qid.kind (by have := l3.out; omega) (by omega)).mono ?_; rintro e w6 ⟨v4, rfl, hg⟩
        generalize hL : L3 ++ le s.qid.kind 1 = L4 at *
        have E4 := Lib.hid hL
        have l4 : Hid (L4.length = 9) := Lib.hid (by rw [← hL, List.length_append, le_length, l3.out])
        have G4 := Lib.hid (G3.out.trans hg)
        obtain ⟨A4, a4, rfl⟩ := own_ctor hg.1
        clear hL hg
        have c3 : w6.cell? ⟨b, 3, none⟩ = some (.int .u32 (s.qid.vers : Int)) := (cell_of_row _ _ _ _ _ _ (G4.out.2.1.heap HB2.out (by simp [Value.ownBlock]))).trans rfl
        clear c2
        go_wp2_with fail
        refine (num4_any L4 G4.out.1 (Nat.le_trans hB2 G4.out.2.1.size) s.qid.vers (by have := l4.out; omega) (by omega)).mono ?_; rintro e w7 ⟨v5, rfl, hg⟩
        generalize hL : L4 ++ le s.qid.vers 4 = L5 at *
        have E5 := Lib.hid hL
        have l5 : Hid (L5.length = 13) := Lib.hid (by rw [← hL, List.length_append, le_length, l4.out])
        have G5 := Lib.hid (G4.out.trans hg)
        obtain ⟨A5, a5, rfl⟩ := own_ctor hg.1
        clear hL hg
        have c4 : w7.cell? ⟨b, 4, none⟩ = some (.int .u64 (s.qid.path : Int)) := (cell_of_row _ _ _ _ _ _ (G5.out.2.1.heap HB2.out (by simp [Value.ownBlock]))).trans rfl
        clear c3
        go_wp2_with fail
        refine (num8_any L5 G5.out.1 (Nat.le_trans hB2 G5.out.2.1.size) s.qid.path (by have := l5.out; omega) (HQ3.out)).mono ?_; rintro e w8 ⟨v6, rfl, hg⟩
        generalize hL : L5 ++ le s.qid.path 8 = L6 at *
        have E6 := Lib.hid hL
        have l6 : Hid (L6.length = 21) := Lib.hid (by rw [← hL, List.length_append, le_length, l5.out])
        have G6 := Lib.hid (G5.out.trans hg)
        obtain ⟨A6, a6, rfl⟩ := own_ctor hg.1
        clear hL hg
        have c5 : w8.cell? ⟨b, 5, none⟩ = some (.int .u32 (s.mode : Int)) := (cell_of_row _ _ _ _ _ _ (G6.out.2.1.heap HB2.out (by simp [Value.ownBlock]))).trans rfl
        clear c4
        go_wp2_with fail
        refine (num4_any L6 G6.out.1 (Nat.le_trans hB2 G6.out.2.1.size) s.mode (by have := l6.out; omega) (by omega)).mono ?_; rintro e w9 ⟨v7, rfl, hg⟩
        generalize hL : L6 ++ le s.mode 4 = L7 at *
        have E7 := Lib.hid hL
        have l7 : Hid (L7.length = 25) := Lib.hid (by rw [← hL, List.length_append, le_length, l6.out])
        have G7 := Lib.hid (G6.out.trans hg)
        obtain ⟨A7, a7, rfl⟩ := own_ctor hg.1
        clear hL hg
        have c6 : w9.cell? ⟨b, 6, none⟩ = some (.int .u32 (s.atime : Int)) := (cell_of_row _ _ _ _ _ _ (G7.out.2.1.heap HB2.out (by simp [Value.ownBlock]))).trans rfl
        clear c5
        go_wp2_with fail
        refine (num4_any L7 G7.out.1 (Nat.le_trans hB2 G7.out.2.1.size) s.atime (by have := l7.out; omega) (by omega)).mono ?_; rintro e w10 ⟨v8, rfl, hg⟩
        generalize hL : L7 ++ le s.atime 4 = L8 at *
        have E8 := Lib.hid hL
        have l8 : Hid (L8.length = 29) := Lib.hid (by rw [← hL, List.length_append, le_length, l7.out])
        have G8 := Lib.hid (G7.out.trans hg)
        obtain ⟨A8, a8, rfl⟩ := own_ctor hg.1
        clear hL hg
        have c7 : w10.cell? ⟨b, 7, none⟩ = some (.int .u32 (s.mtime : Int)) := (cell_of_row _ _ _ _ _ _ (G8.out.2.1.heap HB2.out (by simp [Value.ownBlock]))).trans rfl
        clear c6
        go_wp2_with fail
        refine (num4_any L8 G8.out.1 (Nat.le_trans hB2 G8.out.2.1.size) s.mtime (by have := l8.out; omega) (by omega)).mono ?_; rintro e w11 ⟨v9, rfl, hg⟩
        generalize hL : L8 ++ le s.mtime 4 = L9 at *
        have E9 := Lib.hid hL
        have l9 : Hid (L9.length = 33) := Lib.hid (by rw [← hL, List.length_append, le_length, l8.out])
        have G9 := Lib.hid (G8.out.trans hg)
        obtain ⟨A9, a9, rfl⟩ := own_ctor hg.1
        clear hL hg
        have c8 : w11.cell? ⟨b, 8, none⟩ = some (.int .u64 (s.length : Int)) := (cell_of_row _ _ _ _ _ _ (G9.out.2.1.heap HB2.out (by simp [Value.ownBlock]))).trans rfl
        clear c7
        go_wp2_with fail
        refine (num8_any L9 G9.out.1 (Nat.le_trans hB2 G9.out.2.1.size) s.length (by have := l9.out; omega) (HG6.out)).mono ?_; rintro e w12 ⟨v10, rfl, hg⟩
        generalize hL : L9 ++ le s.length 8 = L10 at *
        have E10 := Lib.hid hL
        have l10 : Hid (L10.length = 41) := Lib.hid (by rw [← hL, List.length_append, le_length, l9.out])
        have G10 := Lib.hid (G9.out.trans hg)
        obtain ⟨A10, a10, rfl⟩ := own_ctor hg.1
        clear hL hg
        clear c8
        go_wp2_with fail
        have hN : L10 = s.nums := by
          rw [← E10.out, ← E9.out, ← E8.out, ← E7.out, ← E6.out, ← E5.out, ← E4.out, ← E3.out, ← E2.out, ← E1.out, List.nil_append, show m = s.size - 2 by have := HM.out; omega]
          rfl
        have HN := Lib.hid hN
        clear hN E1 E2 E3 E4 E5 E6 E7 E8 E9 E10 G0 G1 G2 G3 G4 G5 G6 G7 G8 G9 l1 l2 l3 l4 l5 l6 l7 l8 l9
        obtain ⟨i0, hi, hz0, hz1, hz2⟩ := info_parts info5
        go_loopw [8, 9] (fun v i wr => RelTxt (b + 2) w2 L10 l v i wr) (fun _ i _ => 4 - (intOf i).toNat)
        case atStart => exact ⟨0, by omega, rfl, by simpa [txts] using G10.out⟩
        case round =>
          obtain ⟨k, hk, rfl, hg⟩ := hrel
          have HG := Lib.hid hg
          have hlen : (L10 ++ txts (l.take k)).length ≤ 70000 := by have h1 := HTL.out k; have h2 := l10.out; rw [List.length_append]; omega
          have HX := Lib.hid (fun (h : k < l.length) => txts_next h L10)
          generalize hM : L10 ++ txts (l.take k) = M at *
          have HMM := Lib.hid hM
          obtain ⟨A, ac, rfl⟩ := own_ctor hg.1
          clear hg hM G10
          rcases Nat.lt_or_ge k 4 with hlt | hge
          · have hlk : k < l.length := by have := HL.out; omega
            have HRow := Lib.hid (show (l.map Value.string).toArray[k]? = some (.string l[k]) by simp [hlk])
            have hc0 : wr.cell? ⟨c, k, none⟩ = some (.string l[k]) := by rw [cell_of_row _ _ _ _ _ _ (HG.out.2.1.heap HC2.out (by simp [Value.ownBlock]))]; simp [hlk]
            have HX1 := Lib.hid (HX.out hlk)
            have hzk := HZ.out l[k] (by simp)
            generalize l[k] = t at *
            go_wp2_with fail
            refine (num2_any M HG.out.1 (Nat.le_trans hB2 HG.out.2.1.size) t.size (by omega) (by omega)).mono ?_; rintro e z1 ⟨v1, rfl, hg⟩
            have G1 := Lib.hid (HG.out.trans hg)
            have hl1 : (M ++ le t.size 2).length ≤ 70002 := by rw [List.length_append, le_length]; omega
            obtain ⟨A1, a1, rfl⟩ := own_ctor hg.1
            clear hg hc0
            generalize hM1 : M ++ le t.size 2 = M1 at *
            have HM1 := Lib.hid hM1
            clear hM1
            have hc1 : z1.cell? ⟨c, k, none⟩ = some (.string t) := by
              rw [cell_of_row _ _ _ _ _ _ (G1.out.2.1.heap HC2.out (by simp [Value.ownBlock]))]
              exact HRow.out
            have hsz1 := G1.out.2.1.size
            go_wp2_with (at_builtin; go_must (refine wpList_app _ rfl _ _ 37 9 rfl (b + 2) 5 i0 (.int .u8 0) 1 1 Tryz.underlying37 hi hz0 hz1 hz2 rfl _ _ _ rfl G1.out.1 _ t.size (byteCells t) rfl ?d1 ?d2 ?d3 ?d4 ?_))
            case d1 => exact Src.ofString _ Tryz.underlying9 t
            case d2 => unfold maxLen; omega
            case d3 => omega
            case d4 => omega
            intro v2 z2 hown hgrow hat
            have hG := G1.out.app0 hown (bs := t.data.toList) rfl (by simp) hgrow hat
            rw [← HX1.out] at hG
            have HR : Hid (RelTxt (b + 2) w2 L10 l v2 (.int .i64 ((k : Int) + 1)) z2) := Lib.hid ⟨k + 1, by omega, rfl, hG⟩
            obtain ⟨A2, a2, rfl⟩ := own_ctor hG.1
            clear hG hown hgrow hat hc1
            go_wp2_with fail
            exact ⟨HR.out, by simp [intOf]; omega⟩
          · obtain rfl : k = 4 := by omega
            go_wp2_with fail
            go_ret2
            have hG := HG.out
            have hE : M = s.enc := by rw [← HMM.out, HENC.out, HN.out, List.take_of_length_le (by have := HL.out; omega)]
            rw [encode_good H0.out]
            refine ⟨_, rfl, ?_, HM2.out.trans hG.2.1 (by simp [Value.ownBlock])⟩
            have h1 := ownsRow_base (B := w.heap.size) hG.1 (by rw [HB.out]; omega)
            rw [← hE]
            exact h1
end Go.Proofs.YtnpokdbpmnkbjaaGreatDoor
namespace Go.Proofs.YtnpokdbpmnkbjaaGreatDoor
open Go.RowKit Me

end Go.Proofs.YtnpokdbpmnkbjaaGreatDoor
