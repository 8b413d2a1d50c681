/- The reference's get, texts, Decode. -/
import Derived.Test.YtnpokdbpmnkbjaaGreatDoorPq
import Derived.Test.YtnpokdbpmnkbjaaGreatDoorRx
import Derived.Test.YtnpokdbpmnkbjaaGreatDoorCg
import Derived.Test.YtnpokdbpmnkbjaaGreatDoorTk
import Derived.Deep.CutBlock
import Derived.Deep.CutRange
namespace Go.Proofs.YtnpokdbpmnkbjaaGreatDoor
open Go.RowKit Me

set_option maxRecDepth 100000 in
set_option maxHeartbeats 1000000 in
theorem get_any {w : World} {vx : Value} (l : List UInt8) (hx : Rd w vx (l.map byteV)) (hl : l.length ≤ 70000000000000) (p n : Nat) (hp : p + n ≤ l.length) (hn : n ≤ 8) :
    Calls Tryz.prog 76 #[vx, .int .i64 (p : Int), .int .i64 (n : Int)] w fun e w' => e = .returned (.int .u64 (val ((l.drop p).take n) : Int)) ∧ w = w' := by
  have HX := Lib.hid hx
  obtain ⟨A, c, rfl, -⟩ := rd_slice hx
  clear hx
  have hbl : ((l.drop p).take n).length = n := by simp; omega
  have hbat : ∀ j, j < ((l.drop p).take n).length → ((l.drop p).take n)[j]? = l[p + j]? := fun j h => by rw [List.getElem?_take, if_pos (by omega), List.getElem?_drop]
  generalize (l.drop p).take n = bs at *
  go_enter Tryz.func76, Tryz.ntmps76
  go_wp2_with fail
  go_loopw [7, 8] (fun x i wr => RelQ w bs x i wr) (fun _ i _ => (intOf i + 1).toNat)
  case atStart => exact ⟨bs.length, Nat.le_refl _, by rw [hbl], by rw [List.drop_length]; rfl, rfl⟩
  case round =>
    obtain ⟨j, hj, rfl, rfl, rfl⟩ := hrel
    rcases Nat.eq_zero_or_pos j with rfl | hpos
    · go_wp2_with fail
      go_ret
      exact ⟨rfl, rfl⟩
    · obtain ⟨j, rfl⟩ : ∃ q, j = q + 1 := ⟨j - 1, by omega⟩
      have hjl : j < bs.length := by omega
      have hjp : p + j < l.length := by omega
      obtain ⟨g, off, rfl, d0⟩ := rd_at HX.out hjp
      have e0 := hbat j hjl
      rw [List.getElem?_eq_getElem hjl, List.getElem?_eq_getElem hjp] at e0
      rw [← Option.some.inj e0] at d0
      clear e0
      have hv := val_drop hjl
      have hb := bs[j].toNat_lt
      have hlt := val_lt (bs.drop j)
      have hp8 : 256 ^ (bs.drop j).length ≤ 256 ^ 8 := Nat.pow_le_pow_right (by omega) (by rw [List.length_drop]; omega)
      have h8 : (256 : Nat) ^ 8 = 18446744073709551616 := rfl
      have e1 : (((j + 1 : Nat) : Int) - 1) = (j : Int) := by omega
      have HRR : Hid (RelQ w bs (.int .u64 (val (bs.drop j) : Int)) (.int .i64 ((j : Int) - 1)) w) := Lib.hid ⟨j, by omega, rfl, rfl, rfl⟩
      rw [e1]
      generalize val (bs.drop j) = y at *
      generalize val (bs.drop (j + 1)) = z at *
      generalize bs[j] = q at *
      have s1 : IntKind.u64.wrap ((z : Int) * 256) = (z : Int) * 256 := by rw [IntKind.wrap_u64]; omega
      have s2 : IntKind.u64.wrap ((z : Int) * 256 + (q.toNat : Int)) = (y : Int) := by rw [IntKind.wrap_u64]; omega
      have s3 : IntKind.i64.wrap ((p : Int) + (j : Int)) = (p : Int) + (j : Int) := IntWalk.i64_in _ (by omega)
      have s4 : ((p : Int) + (j : Int)).toNat = p + j := by omega
      have s5 : (0 : Int) ≤ (p : Int) + (j : Int) := by omega
      have s6 : (p : Int) + (j : Int) < (l.length : Int) := by omega
      clear hv hlt hp8 h8
      go_wp2_with fail
      exact ⟨HRR.out, by simp only [intOf]; omega⟩
theorem info9 : (Tryz.prog.info? 9).map (fun i => (i.zero, i.size, i.bytes)) = some (some (.string ⟨#[]⟩), 1, 16) := by kernel_rfl
def strV (t : List UInt8) : Value := .string (strOf t)
/-- What texts leaves: the texts in a row of their own, and the place behind them. -/
def TxtPost (w : World) (r : Option (List (List UInt8) × Nat)) (e : Ending) (w' : World) : Prop :=
  Mods [] w w' ∧ ∃ v : Value, w'.ownsRow w.heap.size 9 1 v ((r.getD ([], 0)).1).length (((r.getD ([], 0)).1).map strV) ∧ e = .returned (.tuple #[v, .int .i64 (match r with | none => -1 | some x => (x.2 : Int))])
def RelTx (l : List UInt8) (p : Nat) (w : World) (q v i : Value) (wr : World) : Prop :=
  ∃ (k : Nat) (ts : List (List UInt8)) (a : Nat), k ≤ 4 ∧ ts.length = k ∧ a ≤ l.length ∧ q = .int .i64 (a : Int) ∧ i = .int .i64 (k : Int) ∧ textsR l p 4 = (textsR l a (4 - k)).map (fun r => (ts ++ r.1, r.2)) ∧ wr.ownsRow w.heap.size 9 1 v k (ts.map strV) ∧ Mods [] w wr
theorem textsR_next {l : List UInt8} {a k n : Nat} {ts : List (List UInt8)} (hn : val ((l.drop a).take 2) = n) (h1 : ¬ l.length < a + 2) (h2 : ¬ l.length < a + 2 + n) (hg : Tx.good ((l.drop (a + 2)).take n) = true) :
    (textsR l a (k + 1)).map (fun r => (ts ++ r.1, r.2)) = (textsR l (a + 2 + n) k).map (fun r => ((ts ++ [(l.drop (a + 2)).take n]) ++ r.1, r.2)) := by
  subst hn
  rw [textsR, if_neg h1, if_neg h2, if_pos hg]
  cases textsR l (a + 2 + val ((l.drop a).take 2)) k <;> simp
theorem textsR_stop {l : List UInt8} {a k n : Nat} (hn : val ((l.drop a).take 2) = n) (h : l.length < a + 2 ∨ l.length < a + 2 + n ∨ Tx.good ((l.drop (a + 2)).take n) = false) : textsR l a (k + 1) = none := by
  subst hn
  rw [textsR]
  split
  · rfl
  · split
    · rfl
    · split
      · rename_i h1 h2 h3
        rw [h3] at h
        rcases h with h | h | h
        · exact absurd h h1
        · exact absurd h h2
        · cases h
      · rfl
set_option maxRecDepth 100000 in
set_option maxHeartbeats 1000000 in
theorem rtexts_any {w : World} {vx : Value} (l : List UInt8) (hx : Rd w vx (l.map byteV)) (hl : l.length ≤ 70000000000000) (p : Nat) (hp : p ≤ l.length) :
    Calls Tryz.prog 77 #[vx, .int .i64 (p : Int)] w (TxtPost w (textsR l p 4)) := by
  have HX := Lib.hid hx
  obtain ⟨A, c, rfl, hc1, hc2⟩ := rd_slice hx
  clear hx
  obtain ⟨i0, hi, hz0, hz1, hz2⟩ := info_parts info9
  go_enter Tryz.func77, Tryz.ntmps77
  go_wp2_with fail
  go_loopw [1, 6, 7] (fun q v i wr => RelTx l p w q v i wr) (fun _ _ i _ => 4 - (intOf i).toNat)
  case atStart => exact ⟨0, [], p, by omega, rfl, hp, rfl, rfl, by simp, World.ownsRow_nil _ _ _ _, Mods.refl _ _⟩
  case round =>
    obtain ⟨k, ts, a, hk, htl, ha, rfl, rfl, htx, hown, hm⟩ := hrel
    have HTX := Lib.hid htx
    have HO := Lib.hid hown
    have HM := Lib.hid hm
    have HXr := Lib.hid (HX.out.mods hm (by simp))
    obtain ⟨A', c', rfl⟩ := own_ctor hown
    clear htx hown hm
    rcases Nat.lt_or_ge k 4 with hlt | hge
    · obtain ⟨j, hj⟩ : ∃ j, 4 - k = j + 1 := ⟨3 - k, by omega⟩
      have s1 : IntKind.i64.wrap ((a : Int) + 2) = (a : Int) + 2 := IntWalk.i64_in _ (by omega)
      by_cases h1 : l.length < a + 2
      · have hb : decide ((l.length : Int) < (a : Int) + 2) = true := by simp; omega
        have hnone : textsR l p 4 = none := by rw [HTX.out, hj, textsR_stop rfl (Or.inl h1)]; rfl
        go_wp2_with fail
        go_ret2
        rw [hnone]
        exact ⟨HM.out, _, World.ownsRow_nil _ _ _ _, rfl⟩
      · have hb : decide ((l.length : Int) < (a : Int) + 2) = false := by simp; omega
        have HG := Lib.hid (get_any (w := wr) l HXr.out hl a 2 (by omega) (by omega))
        have hv := val_lt ((l.drop a).take 2)
        have hv2 : ((l.drop a).take 2).length = 2 := by simp; omega
        rw [hv2] at hv
        simp only [Nat.reducePow] at hv
        generalize hn : val ((l.drop a).take 2) = n at *
        have HN := Lib.hid hn
        clear hv2
        go_wp2_with fail
        refine HG.out.mono ?_; rintro e w1 ⟨rfl, rfl⟩
        have s2 : IntKind.i64.wrap (n : Int) = (n : Int) := IntWalk.i64_in _ (by omega)
        have s3 : IntKind.i64.wrap ((a : Int) + 2 + (n : Int)) = (a : Int) + 2 + (n : Int) := IntWalk.i64_in _ (by omega)
        by_cases h2 : l.length < a + 2 + n
        · have hb : decide ((l.length : Int) < (a : Int) + 2 + (n : Int)) = true := by simp; omega
          have hnone : textsR l p 4 = none := by rw [HTX.out, hj, textsR_stop HN.out (Or.inr (Or.inl h2))]; rfl
          go_wp2_with fail
          go_ret2
          rw [hnone]
          exact ⟨HM.out, _, World.ownsRow_nil _ _ _ _, rfl⟩
        · have hb : decide ((l.length : Int) < (a : Int) + 2 + (n : Int)) = false := by simp; omega
          obtain ⟨g, off, hA, -⟩ := rd_at HX.out (j := 0) (by omega)
          subst hA
          have htl2 : ((l.drop (a + 2)).take n).length = n := by simp; omega
          have hcell : ∀ j b, ((l.drop (a + 2)).take n)[j]? = some b → wr.cell? ⟨g, off + (a + 2) + j, none⟩ = some (byteV b) := fun j b hjb => by
            have hjn : j < n := by rw [← htl2]; exact (List.getElem?_eq_some_iff.1 hjb).1
            rw [List.getElem?_take, if_pos hjn, List.getElem?_drop] at hjb
            obtain ⟨hlt3, hbb⟩ := List.getElem?_eq_some_iff.1 hjb
            obtain ⟨g', off', e', d0⟩ := rd_at HXr.out hlt3
            cases e'
            rw [show off + (a + 2) + j = off + (a + 2 + j) by omega, d0, hbb]
            rfl
          have HCV1 := Lib.hid (conv_bytes (c - (a + 2)) _ hcell)
          rw [htl2] at HCV1
          have HGD := Lib.hid (fun W => rgood_any (strOf ((l.drop (a + 2)).take n)) W (by rw [strOf_size, htl2]; omega))
          have HLN := Lib.hid htl2
          have HCE : Hid (n = 0 → (l.drop (a + 2)).take n = []) := Lib.hid (fun e => by rw [e]; rfl)
          have HNX := Lib.hid (fun hg => textsR_next (k := j) (ts := ts) HN.out h1 h2 hg)
          have HST := Lib.hid (fun hg => textsR_stop (k := j) HN.out (Or.inr (Or.inr hg)))
          simp only [strOf_toList] at HGD
          clear hcell htl2
          generalize (l.drop (a + 2)).take n = t at *
          go_upto_region 11 with fail
          go_cut [9] from 11 to 49 (fun s wx => s = .string (strOf t) ∧ wr = wx)
          case first =>
            by_cases hca : c = a + 2
            · obtain rfl : n = 0 := by omega
              have ht0 := HCE.out rfl
              subst ht0
              have hcv2 : (convert 37 9 (.slice (some ⟨g, off, none⟩) 0 0)).run Tryz.prog wr = .ok (.string ⟨([] : List UInt8).toArray⟩) wr := conv_bytes (w := wr) (g := g) (off := off) 0 [] (by simp)
              subst hca
              go_wp2_with fail
              go_meet
              exact ⟨rfl, rfl⟩
            · have hcv2 := HCV1.out
              go_wp2_with fail
              go_meet
              exact ⟨rfl, rfl⟩
          obtain ⟨rfl, rfl⟩ := hcut
          go_wp2_with fail
          refine (HGD.out _).mono ?_; rintro e w1 ⟨rfl, rfl⟩
          cases hg : Tx.good t with
          | false =>
            have hnone : textsR l p 4 = none := by rw [HTX.out, hj, HST.out hg]; rfl
            go_wp2_with fail
            go_ret2
            rw [hnone]
            exact ⟨HM.out, _, World.ownsRow_nil _ _ _ _, rfl⟩
          | true =>
            have htx2 := HNX.out hg
            have HTX2 : Hid (textsR l p 4 = (textsR l (a + 2 + n) j).map (fun r => ((ts ++ [t]) ++ r.1, r.2))) := Lib.hid (by rw [HTX.out, hj, htx2])
            clear htx2
            go_wp2_with (at_builtin; go_must (refine wpList_app _ rfl _ _ 75 75 rfl w.heap.size 9 i0 (.string ⟨#[]⟩) 1 16 Tryz.underlying75 hi hz0 hz1 hz2 rfl _ _ _ rfl (HO.out.alloc _) _ 1 [.string (strOf t)] rfl ?c1 ?c2 ?c3 ?c4 ?_))
            case c1 => exact src_one Tryz.underlying75 _ _ _ rfl
            case c2 => unfold maxLen; omega
            case c3 => omega
            case c4 => have := HM.out.size; simp; omega
            intro v1 w1 hown hgrow hat
            have hm1 : Mods [] w w1 := (HM.out.alloc _).grown hgrow (fun b hb => Or.inr (HO.out.lt b hb).1)
            have HR : Hid (RelTx l p w (.int .i64 ((a : Int) + 2 + (n : Int))) v1 (.int .i64 ((k : Int) + 1)) w1) := Lib.hid ⟨k + 1, ts ++ [t], a + 2 + n, by omega, by simp [htl], by omega, rfl, rfl, by rw [HTX2.out, show 4 - (k + 1) = j by omega], by simpa [strV] using hown, hm1⟩
            obtain ⟨A1, c1, rfl⟩ := own_ctor hown
            clear hown hgrow hat hm1
            go_wp2_with fail
            exact ⟨HR.out, by simp [intOf]; omega⟩
    · obtain rfl : k = 4 := by omega
      go_wp2_with fail
      go_ret2
      rw [HTX.out]
      simp only [Nat.sub_self, textsR, Option.map_some, List.append_nil]
      exact ⟨HM.out, _, by simpa [htl] using HO.out, rfl⟩
theorem own_form1 {w : World} {B : Nat} {e : TypeId} {v : Value} {n : Nat} {xs : List Value} (h : w.ownsRow B e 1 v n xs) (hn : 0 < n) :
    ∃ g cap, v = .slice (some ⟨g, 0, none⟩) n cap ∧ ∀ j u, xs[j]? = some u → w.cell? ⟨g, j, none⟩ = some u := by
  rcases ownsRow_form h with ⟨rfl, rfl, rfl⟩ | ⟨g, cap, rfl, h1, h2, h3⟩
  · omega
  · refine ⟨g, cap, rfl, fun j u hj => ?_⟩
    obtain ⟨A', c', e', -, -, h5⟩ := Rd.of_own h
    obtain ⟨g', off', e2, hc⟩ := h5 j u hj
    have e3 := (Value.slice.inj e').1
    rw [← e3] at e2
    cases e2
    simpa using hc
theorem decR_short {l : List UInt8} (h : l.length < 49) : decR l = (StatP.zero, 20) := by
  unfold decR
  rw [if_pos h]
theorem decR_size {l : List UInt8} {n : Nat} (hn : val ((l.drop 0).take 2) = n) (h : n + 2 ≠ l.length) : decR l = (StatP.zero, 20) := by
  subst hn
  unfold decR
  by_cases h1 : l.length < 49
  · rw [if_pos h1]
  · rw [if_neg h1, if_pos h]
theorem decR_none {l : List UInt8} (h : textsR l 41 4 = none) : decR l = (StatP.zero, 20) := by
  unfold decR
  rw [h]
  split
  · rfl
  · split <;> rfl
theorem decR_end {l : List UInt8} {r : List (List UInt8) × Nat} (h : textsR l 41 4 = some r) (he : r.2 ≠ l.length) : decR l = (StatP.zero, 20) := by
  unfold decR
  rw [h]
  simp only
  rw [if_pos he]
  split
  · rfl
  · split <;> rfl
theorem decR_good {l : List UInt8} {n : Nat} (h1 : ¬ l.length < 49) (hn : val ((l.drop 0).take 2) = n) (h2 : n + 2 = l.length) {r : List (List UInt8) × Nat} (h : textsR l 41 4 = some r) (he : r.2 = l.length) : decR l = (recOf l r.1, 0) := by
  subst hn
  unfold decR
  rw [if_neg h1, if_neg (by omega), h]
  simp only
  rw [if_neg (by omega)]
structure DcS (w : World) (b2 b4 b7 : Nat) (row : Array Value) (v : World) : Prop where
  mods : Mods [] w v
  res : v.heap[b2]? = some (.cells zeroV 35 (0, 0))
  zer : v.heap[b4]? = some (.cells zeroV 35 (0, 0))
  row : v.heap[b7]? = some (.cells row 35 (0, 0))
theorem DcS.set {w : World} {b2 b4 b7 : Nat} {row : Array Value} {v : World} (n : w.heap.size ≤ b7 ∧ b2 ≠ b7 ∧ b4 ≠ b7) (s : DcS w b2 b4 b7 row v) (i : Nat) (u : Value) : DcS w b2 b4 b7 (row.setIfInBounds i u) (v.setCell ⟨b7, i, none⟩ u) :=
  ⟨s.mods.setCell (p := ⟨b7, i, none⟩) (Or.inr n.1) u, (heap_setCell_other v ⟨b7, i, none⟩ b2 u n.2.1).trans s.res, (heap_setCell_other v ⟨b7, i, none⟩ b4 u n.2.2).trans s.zer, heap_setCell_same v b7 i row 35 u s.row⟩
theorem val_small (l : List UInt8) (p n : Nat) : val ((l.drop p).take n) < 256 ^ n := Nat.lt_of_lt_of_le (val_lt _) (Nat.pow_le_pow_right (by omega) (by simp; omega))
set_option maxRecDepth 100000 in
set_option maxHeartbeats 2000000 in
theorem rdecode_any {w : World} {vx : Value} (l : List UInt8) (hx : Rd w vx (l.map byteV)) (hl : l.length ≤ 70000000000000) :
    Calls Tryz.prog 27 #[vx] w fun e w' => e = .returned (.tuple #[.agg (statV (decR l).1), .int .i64 ((decR l).2 : Int)]) ∧ Mods [] w w' := by
  have hm0 : Mods [] w ((w.alloc (.cells zeroV 35)).alloc (.cells zeroV 35)) := ((Mods.refl [] w).alloc _).alloc _
  have B0 : Hid (((w.alloc (.cells zeroV 35)).alloc (.cells zeroV 35)).heap[w.heap.size]? = some (.cells zeroV 35 (0, 0))) := by
    refine Lib.hid ?_
    rw [Go.heap_alloc_old _ _ (by simp)]
    exact heap_alloc_new w _
  have B1 : Hid (((w.alloc (.cells zeroV 35)).alloc (.cells zeroV 35)).heap[w.heap.size + 1]? = some (.cells zeroV 35 (0, 0))) := by
    refine Lib.hid ?_
    have := heap_alloc_new (w.alloc (.cells zeroV 35)) (.cells zeroV 35)
    rw [show (w.alloc (.cells zeroV 35)).heap.size = w.heap.size + 1 by simp] at this
    exact this
  have M0 := Lib.hid hm0
  have HSZ : Hid (((w.alloc (.cells zeroV 35)).alloc (.cells zeroV 35)).heap.size = w.heap.size + 2) := Lib.hid (by simp)
  have HX := Lib.hid hx
  obtain ⟨A, c, rfl, hc1, hc2⟩ := rd_slice hx
  clear hx hm0
  unfold zeroV at M0 B0 B1 HSZ
  go_enter Tryz.func27, Tryz.ntmps27
  go_upto_region 2 with fail
  generalize (w.alloc (.cells #[.int .u16 0, .int .u32 0, .int .u8 0, .int .u32 0, .int .u64 0, .int .u32 0, .int .u32 0, .int .u32 0, .int .u64 0, .string ⟨#[]⟩, .string ⟨#[]⟩, .string ⟨#[]⟩, .string ⟨#[]⟩] 35)).alloc (.cells #[.int .u16 0, .int .u32 0, .int .u8 0, .int .u32 0, .int .u64 0, .int .u32 0, .int .u32 0, .int .u32 0, .int .u64 0, .string ⟨#[]⟩, .string ⟨#[]⟩, .string ⟨#[]⟩, .string ⟨#[]⟩] 35) = v0 at *
  generalize hb2 : w.heap.size = b2 at *
  by_cases h1 : l.length < 49
  · have HD := Lib.hid (decR_short h1)
    have hb : decide ((l.length : Int) < 49) = true := by simp; omega
    have c0 : v0.cell? ⟨b2 + 1, 0, none⟩ = some (.int .u16 0) := (cell_of_row _ _ _ _ _ _ B1.out).trans rfl
    have d0 : v0.cell? ⟨b2, 0, none⟩ = some (.int .u16 0) := (cell_of_row _ _ _ _ _ _ B0.out).trans rfl
    have k0 : v0.frozen? ⟨b2, 0, none⟩ = false := frozen_of_row _ _ _ _ _ B0.out
    have c1 : v0.cell? ⟨b2 + 1, 1, none⟩ = some (.int .u32 0) := (cell_of_row _ _ _ _ _ _ B1.out).trans rfl
    have d1 : v0.cell? ⟨b2, 1, none⟩ = some (.int .u32 0) := (cell_of_row _ _ _ _ _ _ B0.out).trans rfl
    have k1 : v0.frozen? ⟨b2, 1, none⟩ = false := frozen_of_row _ _ _ _ _ B0.out
    have c2 : v0.cell? ⟨b2 + 1, 2, none⟩ = some (.int .u8 0) := (cell_of_row _ _ _ _ _ _ B1.out).trans rfl
    have d2 : v0.cell? ⟨b2, 2, none⟩ = some (.int .u8 0) := (cell_of_row _ _ _ _ _ _ B0.out).trans rfl
    have k2 : v0.frozen? ⟨b2, 2, none⟩ = false := frozen_of_row _ _ _ _ _ B0.out
    have c3 : v0.cell? ⟨b2 + 1, 3, none⟩ = some (.int .u32 0) := (cell_of_row _ _ _ _ _ _ B1.out).trans rfl
    have d3 : v0.cell? ⟨b2, 3, none⟩ = some (.int .u32 0) := (cell_of_row _ _ _ _ _ _ B0.out).trans rfl
    have k3 : v0.frozen? ⟨b2, 3, none⟩ = false := frozen_of_row _ _ _ _ _ B0.out
    have c4 : v0.cell? ⟨b2 + 1, 4, none⟩ = some (.int .u64 0) := (cell_of_row _ _ _ _ _ _ B1.out).trans rfl
    have d4 : v0.cell? ⟨b2, 4, none⟩ = some (.int .u64 0) := (cell_of_row _ _ _ _ _ _ B0.out).trans rfl
    have k4 : v0.frozen? ⟨b2, 4, none⟩ = false := frozen_of_row _ _ _ _ _ B0.out
    have c5 : v0.cell? ⟨b2 + 1, 5, none⟩ = some (.int .u32 0) := (cell_of_row _ _ _ _ _ _ B1.out).trans rfl
    have d5 : v0.cell? ⟨b2, 5, none⟩ = some (.int .u32 0) := (cell_of_row _ _ _ _ _ _ B0.out).trans rfl
    have k5 : v0.frozen? ⟨b2, 5, none⟩ = false := frozen_of_row _ _ _ _ _ B0.out
    have c6 : v0.cell? ⟨b2 + 1, 6, none⟩ = some (.int .u32 0) := (cell_of_row _ _ _ _ _ _ B1.out).trans rfl
    have d6 : v0.cell? ⟨b2, 6, none⟩ = some (.int .u32 0) := (cell_of_row _ _ _ _ _ _ B0.out).trans rfl
    have k6 : v0.frozen? ⟨b2, 6, none⟩ = false := frozen_of_row _ _ _ _ _ B0.out
    have c7 : v0.cell? ⟨b2 + 1, 7, none⟩ = some (.int .u32 0) := (cell_of_row _ _ _ _ _ _ B1.out).trans rfl
    have d7 : v0.cell? ⟨b2, 7, none⟩ = some (.int .u32 0) := (cell_of_row _ _ _ _ _ _ B0.out).trans rfl
    have k7 : v0.frozen? ⟨b2, 7, none⟩ = false := frozen_of_row _ _ _ _ _ B0.out
    have c8 : v0.cell? ⟨b2 + 1, 8, none⟩ = some (.int .u64 0) := (cell_of_row _ _ _ _ _ _ B1.out).trans rfl
    have d8 : v0.cell? ⟨b2, 8, none⟩ = some (.int .u64 0) := (cell_of_row _ _ _ _ _ _ B0.out).trans rfl
    have k8 : v0.frozen? ⟨b2, 8, none⟩ = false := frozen_of_row _ _ _ _ _ B0.out
    have c9 : v0.cell? ⟨b2 + 1, 9, none⟩ = some (.string ⟨#[]⟩) := (cell_of_row _ _ _ _ _ _ B1.out).trans rfl
    have d9 : v0.cell? ⟨b2, 9, none⟩ = some (.string ⟨#[]⟩) := (cell_of_row _ _ _ _ _ _ B0.out).trans rfl
    have k9 : v0.frozen? ⟨b2, 9, none⟩ = false := frozen_of_row _ _ _ _ _ B0.out
    have c10 : v0.cell? ⟨b2 + 1, 10, none⟩ = some (.string ⟨#[]⟩) := (cell_of_row _ _ _ _ _ _ B1.out).trans rfl
    have d10 : v0.cell? ⟨b2, 10, none⟩ = some (.string ⟨#[]⟩) := (cell_of_row _ _ _ _ _ _ B0.out).trans rfl
    have k10 : v0.frozen? ⟨b2, 10, none⟩ = false := frozen_of_row _ _ _ _ _ B0.out
    have c11 : v0.cell? ⟨b2 + 1, 11, none⟩ = some (.string ⟨#[]⟩) := (cell_of_row _ _ _ _ _ _ B1.out).trans rfl
    have d11 : v0.cell? ⟨b2, 11, none⟩ = some (.string ⟨#[]⟩) := (cell_of_row _ _ _ _ _ _ B0.out).trans rfl
    have k11 : v0.frozen? ⟨b2, 11, none⟩ = false := frozen_of_row _ _ _ _ _ B0.out
    have c12 : v0.cell? ⟨b2 + 1, 12, none⟩ = some (.string ⟨#[]⟩) := (cell_of_row _ _ _ _ _ _ B1.out).trans rfl
    have d12 : v0.cell? ⟨b2, 12, none⟩ = some (.string ⟨#[]⟩) := (cell_of_row _ _ _ _ _ _ B0.out).trans rfl
    have k12 : v0.frozen? ⟨b2, 12, none⟩ = false := frozen_of_row _ _ _ _ _ B0.out
    go_wp2_with fail
    refine bodyPost_ret (v := .tuple #[.agg #[.int .u16 0, .int .u32 0, .int .u8 0, .int .u32 0, .int .u64 0, .int .u32 0, .int .u32 0, .int .u32 0, .int .u64 0, .string ⟨#[]⟩, .string ⟨#[]⟩, .string ⟨#[]⟩, .string ⟨#[]⟩], .int .i64 20]) (by simp [results, Tryz.results27, go_sem, d0, d1, d2, d3, d4, d5, d6, d7, d8, d9, d10, d11, d12]) rfl ?_
    rw [HD.out]
    exact ⟨rfl, (((((((((((((M0.out.setCell (p := ⟨b2, 0, none⟩) (Or.inr (by simp; omega)) (.int .u16 0)).setCell (p := ⟨b2, 1, none⟩) (Or.inr (by simp; omega)) (.int .u32 0)).setCell (p := ⟨b2, 2, none⟩) (Or.inr (by simp; omega)) (.int .u8 0)).setCell (p := ⟨b2, 3, none⟩) (Or.inr (by simp; omega)) (.int .u32 0)).setCell (p := ⟨b2, 4, none⟩) (Or.inr (by simp; omega)) (.int .u64 0)).setCell (p := ⟨b2, 5, none⟩) (Or.inr (by simp; omega)) (.int .u32 0)).setCell (p := ⟨b2, 6, none⟩) (Or.inr (by simp; omega)) (.int .u32 0)).setCell (p := ⟨b2, 7, none⟩) (Or.inr (by simp; omega)) (.int .u32 0)).setCell (p := ⟨b2, 8, none⟩) (Or.inr (by simp; omega)) (.int .u64 0)).setCell (p := ⟨b2, 9, none⟩) (Or.inr (by simp; omega)) (.string ⟨#[]⟩)).setCell (p := ⟨b2, 10, none⟩) (Or.inr (by simp; omega)) (.string ⟨#[]⟩)).setCell (p := ⟨b2, 11, none⟩) (Or.inr (by simp; omega)) (.string ⟨#[]⟩)).setCell (p := ⟨b2, 12, none⟩) (Or.inr (by simp; omega)) (.string ⟨#[]⟩))⟩
  · have hb : decide ((l.length : Int) < 49) = false := by simp; omega
    have HG := Lib.hid (get_any (w := v0) l (HX.out.mods M0.out (by simp)) hl)
    have hv := val_small l 0 2
    simp only [Nat.reducePow] at hv
    have HG0 := Lib.hid (HG.out 0 2 (by omega) (by omega))
    generalize hn : val ((l.drop 0).take 2) = n at *
    have HN := Lib.hid hn
    have s1 : IntKind.i64.wrap (n : Int) = (n : Int) := IntWalk.i64_in _ (by omega)
    have s2 : IntKind.i64.wrap ((n : Int) + 2) = (n : Int) + 2 := IntWalk.i64_in _ (by omega)
    clear HG
    go_wp2_with fail
    refine HG0.out.mono ?_; rintro e w1 ⟨rfl, rfl⟩
    by_cases h2 : n + 2 = l.length
    · have hb2 : ((n : Int) + 2 != (l.length : Int)) = false := by rw [bne_eq_false_iff_eq]; omega
      have HTX := Lib.hid (rtexts_any (w := v0) l (HX.out.mods M0.out (by simp)) hl 41 (by omega))
      go_wp2_with fail
      refine HTX.out.mono ?_; rintro e w1 ⟨hm, v, hown, rfl⟩
      have M1 := Lib.hid (M0.out.trans hm (by simp))
      have Z1 := Lib.hid (hm.heap B0.out (by simp))
      have Y1 := Lib.hid (hm.heap B1.out (by simp))
      have HO := Lib.hid hown
      have HMM := Lib.hid hm
      obtain ⟨A', c', rfl⟩ := own_ctor hown
      clear hm hown HTX
      cases hr : textsR l 41 4 with
      | none =>
        have HD := Lib.hid (decR_none hr)
        rw [hr] at HO
        have hb : ((-1 : Int) != (l.length : Int)) = true := by rw [bne_iff_ne]; omega
        simp only
        have c0 : w1.cell? ⟨b2 + 1, 0, none⟩ = some (.int .u16 0) := (cell_of_row _ _ _ _ _ _ Y1.out).trans rfl
        have d0 : w1.cell? ⟨b2, 0, none⟩ = some (.int .u16 0) := (cell_of_row _ _ _ _ _ _ Z1.out).trans rfl
        have k0 : w1.frozen? ⟨b2, 0, none⟩ = false := frozen_of_row _ _ _ _ _ Z1.out
        have c1 : w1.cell? ⟨b2 + 1, 1, none⟩ = some (.int .u32 0) := (cell_of_row _ _ _ _ _ _ Y1.out).trans rfl
        have d1 : w1.cell? ⟨b2, 1, none⟩ = some (.int .u32 0) := (cell_of_row _ _ _ _ _ _ Z1.out).trans rfl
        have k1 : w1.frozen? ⟨b2, 1, none⟩ = false := frozen_of_row _ _ _ _ _ Z1.out
        have c2 : w1.cell? ⟨b2 + 1, 2, none⟩ = some (.int .u8 0) := (cell_of_row _ _ _ _ _ _ Y1.out).trans rfl
        have d2 : w1.cell? ⟨b2, 2, none⟩ = some (.int .u8 0) := (cell_of_row _ _ _ _ _ _ Z1.out).trans rfl
        have k2 : w1.frozen? ⟨b2, 2, none⟩ = false := frozen_of_row _ _ _ _ _ Z1.out
        have c3 : w1.cell? ⟨b2 + 1, 3, none⟩ = some (.int .u32 0) := (cell_of_row _ _ _ _ _ _ Y1.out).trans rfl
        have d3 : w1.cell? ⟨b2, 3, none⟩ = some (.int .u32 0) := (cell_of_row _ _ _ _ _ _ Z1.out).trans rfl
        have k3 : w1.frozen? ⟨b2, 3, none⟩ = false := frozen_of_row _ _ _ _ _ Z1.out
        have c4 : w1.cell? ⟨b2 + 1, 4, none⟩ = some (.int .u64 0) := (cell_of_row _ _ _ _ _ _ Y1.out).trans rfl
        have d4 : w1.cell? ⟨b2, 4, none⟩ = some (.int .u64 0) := (cell_of_row _ _ _ _ _ _ Z1.out).trans rfl
        have k4 : w1.frozen? ⟨b2, 4, none⟩ = false := frozen_of_row _ _ _ _ _ Z1.out
        have c5 : w1.cell? ⟨b2 + 1, 5, none⟩ = some (.int .u32 0) := (cell_of_row _ _ _ _ _ _ Y1.out).trans rfl
        have d5 : w1.cell? ⟨b2, 5, none⟩ = some (.int .u32 0) := (cell_of_row _ _ _ _ _ _ Z1.out).trans rfl
        have k5 : w1.frozen? ⟨b2, 5, none⟩ = false := frozen_of_row _ _ _ _ _ Z1.out
        have c6 : w1.cell? ⟨b2 + 1, 6, none⟩ = some (.int .u32 0) := (cell_of_row _ _ _ _ _ _ Y1.out).trans rfl
        have d6 : w1.cell? ⟨b2, 6, none⟩ = some (.int .u32 0) := (cell_of_row _ _ _ _ _ _ Z1.out).trans rfl
        have k6 : w1.frozen? ⟨b2, 6, none⟩ = false := frozen_of_row _ _ _ _ _ Z1.out
        have c7 : w1.cell? ⟨b2 + 1, 7, none⟩ = some (.int .u32 0) := (cell_of_row _ _ _ _ _ _ Y1.out).trans rfl
        have d7 : w1.cell? ⟨b2, 7, none⟩ = some (.int .u32 0) := (cell_of_row _ _ _ _ _ _ Z1.out).trans rfl
        have k7 : w1.frozen? ⟨b2, 7, none⟩ = false := frozen_of_row _ _ _ _ _ Z1.out
        have c8 : w1.cell? ⟨b2 + 1, 8, none⟩ = some (.int .u64 0) := (cell_of_row _ _ _ _ _ _ Y1.out).trans rfl
        have d8 : w1.cell? ⟨b2, 8, none⟩ = some (.int .u64 0) := (cell_of_row _ _ _ _ _ _ Z1.out).trans rfl
        have k8 : w1.frozen? ⟨b2, 8, none⟩ = false := frozen_of_row _ _ _ _ _ Z1.out
        have c9 : w1.cell? ⟨b2 + 1, 9, none⟩ = some (.string ⟨#[]⟩) := (cell_of_row _ _ _ _ _ _ Y1.out).trans rfl
        have d9 : w1.cell? ⟨b2, 9, none⟩ = some (.string ⟨#[]⟩) := (cell_of_row _ _ _ _ _ _ Z1.out).trans rfl
        have k9 : w1.frozen? ⟨b2, 9, none⟩ = false := frozen_of_row _ _ _ _ _ Z1.out
        have c10 : w1.cell? ⟨b2 + 1, 10, none⟩ = some (.string ⟨#[]⟩) := (cell_of_row _ _ _ _ _ _ Y1.out).trans rfl
        have d10 : w1.cell? ⟨b2, 10, none⟩ = some (.string ⟨#[]⟩) := (cell_of_row _ _ _ _ _ _ Z1.out).trans rfl
        have k10 : w1.frozen? ⟨b2, 10, none⟩ = false := frozen_of_row _ _ _ _ _ Z1.out
        have c11 : w1.cell? ⟨b2 + 1, 11, none⟩ = some (.string ⟨#[]⟩) := (cell_of_row _ _ _ _ _ _ Y1.out).trans rfl
        have d11 : w1.cell? ⟨b2, 11, none⟩ = some (.string ⟨#[]⟩) := (cell_of_row _ _ _ _ _ _ Z1.out).trans rfl
        have k11 : w1.frozen? ⟨b2, 11, none⟩ = false := frozen_of_row _ _ _ _ _ Z1.out
        have c12 : w1.cell? ⟨b2 + 1, 12, none⟩ = some (.string ⟨#[]⟩) := (cell_of_row _ _ _ _ _ _ Y1.out).trans rfl
        have d12 : w1.cell? ⟨b2, 12, none⟩ = some (.string ⟨#[]⟩) := (cell_of_row _ _ _ _ _ _ Z1.out).trans rfl
        have k12 : w1.frozen? ⟨b2, 12, none⟩ = false := frozen_of_row _ _ _ _ _ Z1.out
        go_wp2_with fail
        refine bodyPost_ret (v := .tuple #[.agg #[.int .u16 0, .int .u32 0, .int .u8 0, .int .u32 0, .int .u64 0, .int .u32 0, .int .u32 0, .int .u32 0, .int .u64 0, .string ⟨#[]⟩, .string ⟨#[]⟩, .string ⟨#[]⟩, .string ⟨#[]⟩], .int .i64 20]) (by simp [results, Tryz.results27, go_sem, d0, d1, d2, d3, d4, d5, d6, d7, d8, d9, d10, d11, d12]) rfl ?_
        rw [HD.out]
        exact ⟨rfl, (((((((((((((M1.out.setCell (p := ⟨b2, 0, none⟩) (Or.inr (by simp; omega)) (.int .u16 0)).setCell (p := ⟨b2, 1, none⟩) (Or.inr (by simp; omega)) (.int .u32 0)).setCell (p := ⟨b2, 2, none⟩) (Or.inr (by simp; omega)) (.int .u8 0)).setCell (p := ⟨b2, 3, none⟩) (Or.inr (by simp; omega)) (.int .u32 0)).setCell (p := ⟨b2, 4, none⟩) (Or.inr (by simp; omega)) (.int .u64 0)).setCell (p := ⟨b2, 5, none⟩) (Or.inr (by simp; omega)) (.int .u32 0)).setCell (p := ⟨b2, 6, none⟩) (Or.inr (by simp; omega)) (.int .u32 0)).setCell (p := ⟨b2, 7, none⟩) (Or.inr (by simp; omega)) (.int .u32 0)).setCell (p := ⟨b2, 8, none⟩) (Or.inr (by simp; omega)) (.int .u64 0)).setCell (p := ⟨b2, 9, none⟩) (Or.inr (by simp; omega)) (.string ⟨#[]⟩)).setCell (p := ⟨b2, 10, none⟩) (Or.inr (by simp; omega)) (.string ⟨#[]⟩)).setCell (p := ⟨b2, 11, none⟩) (Or.inr (by simp; omega)) (.string ⟨#[]⟩)).setCell (p := ⟨b2, 12, none⟩) (Or.inr (by simp; omega)) (.string ⟨#[]⟩))⟩
      | some r =>
        rw [hr] at HO
        simp only [Option.getD_some] at HO ⊢
        by_cases h3 : r.2 = l.length
        · have HD := Lib.hid (decR_good h1 HN.out h2 hr h3)
          have hb : ((r.2 : Int) != (l.length : Int)) = false := by rw [bne_eq_false_iff_eq]; omega
          go_upto_region 10 with fail
          have htr := (of_txts l 4 41 r.1 r.2 (by omega) hr).1
          obtain ⟨ts, q⟩ := r
          simp only at HO HD h3 hb htr ⊢
          obtain ⟨x, ts, rfl⟩ := List.exists_cons_of_length_eq_add_one htr
          obtain ⟨y, ts, rfl⟩ := List.exists_cons_of_length_eq_add_one (by simpa using htr : ts.length = 2 + 1)
          obtain ⟨z, ts, rfl⟩ := List.exists_cons_of_length_eq_add_one (by simpa using htr : ts.length = 1 + 1)
          obtain ⟨u, ts, rfl⟩ := List.exists_cons_of_length_eq_add_one (by simpa using htr : ts.length = 0 + 1)
          obtain rfl : ts = [] := List.eq_nil_of_length_eq_zero (by simpa using htr)
          obtain ⟨gt, capt, hvt, hct⟩ := own_form1 HO.out (by simp)
          have hA := (Value.slice.inj hvt).1
          subst hA
          have hgl : gt < w1.heap.size := World.block_lt_of_cell? w1 _ (hct 0 (strV x) rfl)
          have HCT := Lib.hid hct
          have hz1 : b2 + 2 ≤ w1.heap.size := by rw [← HSZ.out]; exact HMM.out.size
          have hms := (Mods.refl [] w1).alloc (.cells #[.int .u16 0, .int .u32 0, .int .u8 0, .int .u32 0, .int .u64 0, .int .u32 0, .int .u32 0, .int .u32 0, .int .u64 0, .string ⟨#[]⟩, .string ⟨#[]⟩, .string ⟨#[]⟩, .string ⟨#[]⟩] 35)
          have S0 : Hid (DcS w1 b2 (b2 + 1) w1.heap.size #[.int .u16 0, .int .u32 0, .int .u8 0, .int .u32 0, .int .u64 0, .int .u32 0, .int .u32 0, .int .u32 0, .int .u64 0, .string ⟨#[]⟩, .string ⟨#[]⟩, .string ⟨#[]⟩, .string ⟨#[]⟩] (w1.alloc (.cells #[.int .u16 0, .int .u32 0, .int .u8 0, .int .u32 0, .int .u64 0, .int .u32 0, .int .u32 0, .int .u32 0, .int .u64 0, .string ⟨#[]⟩, .string ⟨#[]⟩, .string ⟨#[]⟩, .string ⟨#[]⟩] 35))) := Lib.hid ⟨hms, hms.heap Z1.out (by simp), hms.heap Y1.out (by simp), heap_alloc_new w1 _⟩
          have HGT : Hid (∀ v, Mods [] w1 v → ∀ j s, ([x, y, z, u].map strV)[j]? = some s → v.cell? ⟨gt, j, none⟩ = some s) := Lib.hid (fun v hm j s hs => by rw [hm.cell (p := ⟨gt, j, none⟩) hgl (by simp)]; have := HCT.out j s hs; simpa using this)
          clear hct hvt hms hgl HCT HMM
          generalize w1.alloc (.cells #[.int .u16 0, .int .u32 0, .int .u8 0, .int .u32 0, .int .u64 0, .int .u32 0, .int .u32 0, .int .u32 0, .int .u64 0, .string ⟨#[]⟩, .string ⟨#[]⟩, .string ⟨#[]⟩, .string ⟨#[]⟩] 35) = z0 at *
          simp only [List.length_cons, List.length_nil, Nat.reduceAdd, Nat.zero_add]
          generalize hb7 : w1.heap.size = b7 at *
          have N7 : Hid (w1.heap.size ≤ b7 ∧ b2 ≠ b7 ∧ b2 + 1 ≠ b7) := Lib.hid ⟨by omega, by omega, by omega⟩
          have HG0 := Lib.hid (get_any (w := z0) l (HX.out.mods (M1.out.trans S0.out.mods (by simp)) (by simp)) hl 2 2 (by omega) (by omega))
          have v0 := val_small l 2 2
          simp only [Nat.reducePow] at v0
          generalize hx0 : val ((l.drop 2).take 2) = x0 at *
          have HX0 := Lib.hid hx0
          clear hx0
          have s3 : IntKind.u16.wrap (x0 : Int) = (x0 : Int) := by rw [IntKind.wrap_u16]; omega
          have c0 : z0.cell? ⟨b7, 0, none⟩ = some (.int .u16 0) := (cell_of_row _ _ _ _ _ _ S0.out.row).trans rfl
          have f0 : z0.frozen? ⟨b7, 0, none⟩ = false := frozen_of_row _ _ _ _ _ S0.out.row
          go_wp2_with fail
          refine HG0.out.mono ?_; rintro e w' ⟨rfl, rfl⟩
          go_upto_region 11 with fail
          have S1 : Hid (DcS w1 b2 (b2 + 1) b7 #[.int .u16 (x0 : Int), .int .u32 0, .int .u8 0, .int .u32 0, .int .u64 0, .int .u32 0, .int .u32 0, .int .u32 0, .int .u64 0, .string ⟨#[]⟩, .string ⟨#[]⟩, .string ⟨#[]⟩, .string ⟨#[]⟩] _) := Lib.hid (S0.out.set N7.out 0 (.int .u16 (x0 : Int)))
          clear c0 f0 s3 S0
          generalize z0.setCell ⟨b7, 0, none⟩ (.int .u16 (x0 : Int)) = z1 at *
          have HG1 := Lib.hid (get_any (w := z1) l (HX.out.mods (M1.out.trans S1.out.mods (by simp)) (by simp)) hl 4 4 (by omega) (by omega))
          have v1 := val_small l 4 4
          simp only [Nat.reducePow] at v1
          generalize hx1 : val ((l.drop 4).take 4) = x1 at *
          have HX1 := Lib.hid hx1
          clear hx1
          have s3 : IntKind.u32.wrap (x1 : Int) = (x1 : Int) := by rw [IntKind.wrap_u32]; omega
          have c0 : z1.cell? ⟨b7, 1, none⟩ = some (.int .u32 0) := (cell_of_row _ _ _ _ _ _ S1.out.row).trans rfl
          have f0 : z1.frozen? ⟨b7, 1, none⟩ = false := frozen_of_row _ _ _ _ _ S1.out.row
          go_wp2_with fail
          refine HG1.out.mono ?_; rintro e w' ⟨rfl, rfl⟩
          go_upto_region 12 with fail
          have S2 : Hid (DcS w1 b2 (b2 + 1) b7 #[.int .u16 (x0 : Int), .int .u32 (x1 : Int), .int .u8 0, .int .u32 0, .int .u64 0, .int .u32 0, .int .u32 0, .int .u32 0, .int .u64 0, .string ⟨#[]⟩, .string ⟨#[]⟩, .string ⟨#[]⟩, .string ⟨#[]⟩] _) := Lib.hid (S1.out.set N7.out 1 (.int .u32 (x1 : Int)))
          clear c0 f0 s3 S1
          generalize z1.setCell ⟨b7, 1, none⟩ (.int .u32 (x1 : Int)) = z2 at *
          have HG2 := Lib.hid (get_any (w := z2) l (HX.out.mods (M1.out.trans S2.out.mods (by simp)) (by simp)) hl 8 1 (by omega) (by omega))
          have v2 := val_small l 8 1
          simp only [Nat.reducePow] at v2
          generalize hx2 : val ((l.drop 8).take 1) = x2 at *
          have HX2 := Lib.hid hx2
          clear hx2
          have s3 : IntKind.u8.wrap (x2 : Int) = (x2 : Int) := by rw [IntKind.wrap_u8]; omega
          have c0 : z2.cell? ⟨b7, 2, none⟩ = some (.int .u8 0) := (cell_of_row _ _ _ _ _ _ S2.out.row).trans rfl
          have f0 : z2.frozen? ⟨b7, 2, none⟩ = false := frozen_of_row _ _ _ _ _ S2.out.row
          go_wp2_with fail
          refine HG2.out.mono ?_; rintro e w' ⟨rfl, rfl⟩
          go_upto_region 13 with fail
          have S3 : Hid (DcS w1 b2 (b2 + 1) b7 #[.int .u16 (x0 : Int), .int .u32 (x1 : Int), .int .u8 (x2 : Int), .int .u32 0, .int .u64 0, .int .u32 0, .int .u32 0, .int .u32 0, .int .u64 0, .string ⟨#[]⟩, .string ⟨#[]⟩, .string ⟨#[]⟩, .string ⟨#[]⟩] _) := Lib.hid (S2.out.set N7.out 2 (.int .u8 (x2 : Int)))
          clear c0 f0 s3 S2
          generalize z2.setCell ⟨b7, 2, none⟩ (.int .u8 (x2 : Int)) = z3 at *
          have HG3 := Lib.hid (get_any (w := z3) l (HX.out.mods (M1.out.trans S3.out.mods (by simp)) (by simp)) hl 9 4 (by omega) (by omega))
          have v3 := val_small l 9 4
          simp only [Nat.reducePow] at v3
          generalize hx3 : val ((l.drop 9).take 4) = x3 at *
          have HX3 := Lib.hid hx3
          clear hx3
          have s3 : IntKind.u32.wrap (x3 : Int) = (x3 : Int) := by rw [IntKind.wrap_u32]; omega
          have c0 : z3.cell? ⟨b7, 3, none⟩ = some (.int .u32 0) := (cell_of_row _ _ _ _ _ _ S3.out.row).trans rfl
          have f0 : z3.frozen? ⟨b7, 3, none⟩ = false := frozen_of_row _ _ _ _ _ S3.out.row
          go_wp2_with fail
          refine HG3.out.mono ?_; rintro e w' ⟨rfl, rfl⟩
          go_upto_region 14 with fail
          have S4 : Hid (DcS w1 b2 (b2 + 1) b7 #[.int .u16 (x0 : Int), .int .u32 (x1 : Int), .int .u8 (x2 : Int), .int .u32 (x3 : Int), .int .u64 0, .int .u32 0, .int .u32 0, .int .u32 0, .int .u64 0, .string ⟨#[]⟩, .string ⟨#[]⟩, .string ⟨#[]⟩, .string ⟨#[]⟩] _) := Lib.hid (S3.out.set N7.out 3 (.int .u32 (x3 : Int)))
          clear c0 f0 s3 S3
          generalize z3.setCell ⟨b7, 3, none⟩ (.int .u32 (x3 : Int)) = z4 at *
          have HG4 := Lib.hid (get_any (w := z4) l (HX.out.mods (M1.out.trans S4.out.mods (by simp)) (by simp)) hl 13 8 (by omega) (by omega))
          have v4 := val_small l 13 8
          simp only [Nat.reducePow] at v4
          generalize hx4 : val ((l.drop 13).take 8) = x4 at *
          have HX4 := Lib.hid hx4
          clear hx4
          have c0 : z4.cell? ⟨b7, 4, none⟩ = some (.int .u64 0) := (cell_of_row _ _ _ _ _ _ S4.out.row).trans rfl
          have f0 : z4.frozen? ⟨b7, 4, none⟩ = false := frozen_of_row _ _ _ _ _ S4.out.row
          go_wp2_with fail
          refine HG4.out.mono ?_; rintro e w' ⟨rfl, rfl⟩
          go_upto_region 15 with fail
          have S5 : Hid (DcS w1 b2 (b2 + 1) b7 #[.int .u16 (x0 : Int), .int .u32 (x1 : Int), .int .u8 (x2 : Int), .int .u32 (x3 : Int), .int .u64 (x4 : Int), .int .u32 0, .int .u32 0, .int .u32 0, .int .u64 0, .string ⟨#[]⟩, .string ⟨#[]⟩, .string ⟨#[]⟩, .string ⟨#[]⟩] _) := Lib.hid (S4.out.set N7.out 4 (.int .u64 (x4 : Int)))
          clear c0 f0 S4
          generalize z4.setCell ⟨b7, 4, none⟩ (.int .u64 (x4 : Int)) = z5 at *
          have HG5 := Lib.hid (get_any (w := z5) l (HX.out.mods (M1.out.trans S5.out.mods (by simp)) (by simp)) hl 21 4 (by omega) (by omega))
          have v5 := val_small l 21 4
          simp only [Nat.reducePow] at v5
          generalize hx5 : val ((l.drop 21).take 4) = x5 at *
          have HX5 := Lib.hid hx5
          clear hx5
          have s3 : IntKind.u32.wrap (x5 : Int) = (x5 : Int) := by rw [IntKind.wrap_u32]; omega
          have c0 : z5.cell? ⟨b7, 5, none⟩ = some (.int .u32 0) := (cell_of_row _ _ _ _ _ _ S5.out.row).trans rfl
          have f0 : z5.frozen? ⟨b7, 5, none⟩ = false := frozen_of_row _ _ _ _ _ S5.out.row
          go_wp2_with fail
          refine HG5.out.mono ?_; rintro e w' ⟨rfl, rfl⟩
          go_upto_region 16 with fail
          have S6 : Hid (DcS w1 b2 (b2 + 1) b7 #[.int .u16 (x0 : Int), .int .u32 (x1 : Int), .int .u8 (x2 : Int), .int .u32 (x3 : Int), .int .u64 (x4 : Int), .int .u32 (x5 : Int), .int .u32 0, .int .u32 0, .int .u64 0, .string ⟨#[]⟩, .string ⟨#[]⟩, .string ⟨#[]⟩, .string ⟨#[]⟩] _) := Lib.hid (S5.out.set N7.out 5 (.int .u32 (x5 : Int)))
          clear c0 f0 s3 S5
          generalize z5.setCell ⟨b7, 5, none⟩ (.int .u32 (x5 : Int)) = z6 at *
          have HG6 := Lib.hid (get_any (w := z6) l (HX.out.mods (M1.out.trans S6.out.mods (by simp)) (by simp)) hl 25 4 (by omega) (by omega))
          have v6 := val_small l 25 4
          simp only [Nat.reducePow] at v6
          generalize hx6 : val ((l.drop 25).take 4) = x6 at *
          have HX6 := Lib.hid hx6
          clear hx6
          have s3 : IntKind.u32.wrap (x6 : Int) = (x6 : Int) := by rw [IntKind.wrap_u32]; omega
          have c0 : z6.cell? ⟨b7, 6, none⟩ = some (.int .u32 0) := (cell_of_row _ _ _ _ _ _ S6.out.row).trans rfl
          have f0 : z6.frozen? ⟨b7, 6, none⟩ = false := frozen_of_row _ _ _ _ _ S6.out.row
          go_wp2_with fail
          refine HG6.out.mono ?_; rintro e w' ⟨rfl, rfl⟩
          go_upto_region 17 with fail
          have S7 : Hid (DcS w1 b2 (b2 + 1) b7 #[.int .u16 (x0 : Int), .int .u32 (x1 : Int), .int .u8 (x2 : Int), .int .u32 (x3 : Int), .int .u64 (x4 : Int), .int .u32 (x5 : Int), .int .u32 (x6 : Int), .int .u32 0, .int .u64 0, .string ⟨#[]⟩, .string ⟨#[]⟩, .string ⟨#[]⟩, .string ⟨#[]⟩] _) := Lib.hid (S6.out.set N7.out 6 (.int .u32 (x6 : Int)))
          clear c0 f0 s3 S6
          generalize z6.setCell ⟨b7, 6, none⟩ (.int .u32 (x6 : Int)) = z7 at *
          have HG7 := Lib.hid (get_any (w := z7) l (HX.out.mods (M1.out.trans S7.out.mods (by simp)) (by simp)) hl 29 4 (by omega) (by omega))
          have v7 := val_small l 29 4
          simp only [Nat.reducePow] at v7
          generalize hx7 : val ((l.drop 29).take 4) = x7 at *
          have HX7 := Lib.hid hx7
          clear hx7
          have s3 : IntKind.u32.wrap (x7 : Int) = (x7 : Int) := by rw [IntKind.wrap_u32]; omega
          have c0 : z7.cell? ⟨b7, 7, none⟩ = some (.int .u32 0) := (cell_of_row _ _ _ _ _ _ S7.out.row).trans rfl
          have f0 : z7.frozen? ⟨b7, 7, none⟩ = false := frozen_of_row _ _ _ _ _ S7.out.row
          go_wp2_with fail
          refine HG7.out.mono ?_; rintro e w' ⟨rfl, rfl⟩
          go_upto_region 18 with fail
          have S8 : Hid (DcS w1 b2 (b2 + 1) b7 #[.int .u16 (x0 : Int), .int .u32 (x1 : Int), .int .u8 (x2 : Int), .int .u32 (x3 : Int), .int .u64 (x4 : Int), .int .u32 (x5 : Int), .int .u32 (x6 : Int), .int .u32 (x7 : Int), .int .u64 0, .string ⟨#[]⟩, .string ⟨#[]⟩, .string ⟨#[]⟩, .string ⟨#[]⟩] _) := Lib.hid (S7.out.set N7.out 7 (.int .u32 (x7 : Int)))
          clear c0 f0 s3 S7
          generalize z7.setCell ⟨b7, 7, none⟩ (.int .u32 (x7 : Int)) = z8 at *
          have HG8 := Lib.hid (get_any (w := z8) l (HX.out.mods (M1.out.trans S8.out.mods (by simp)) (by simp)) hl 33 8 (by omega) (by omega))
          have v8 := val_small l 33 8
          simp only [Nat.reducePow] at v8
          generalize hx8 : val ((l.drop 33).take 8) = x8 at *
          have HX8 := Lib.hid hx8
          clear hx8
          have c0 : z8.cell? ⟨b7, 8, none⟩ = some (.int .u64 0) := (cell_of_row _ _ _ _ _ _ S8.out.row).trans rfl
          have f0 : z8.frozen? ⟨b7, 8, none⟩ = false := frozen_of_row _ _ _ _ _ S8.out.row
          go_wp2_with fail
          refine HG8.out.mono ?_; rintro e w' ⟨rfl, rfl⟩
          go_upto_region 19 with fail
          have S9 : Hid (DcS w1 b2 (b2 + 1) b7 #[.int .u16 (x0 : Int), .int .u32 (x1 : Int), .int .u8 (x2 : Int), .int .u32 (x3 : Int), .int .u64 (x4 : Int), .int .u32 (x5 : Int), .int .u32 (x6 : Int), .int .u32 (x7 : Int), .int .u64 (x8 : Int), .string ⟨#[]⟩, .string ⟨#[]⟩, .string ⟨#[]⟩, .string ⟨#[]⟩] _) := Lib.hid (S8.out.set N7.out 8 (.int .u64 (x8 : Int)))
          clear c0 f0 S8
          generalize z8.setCell ⟨b7, 8, none⟩ (.int .u64 (x8 : Int)) = z9 at *
          have g0 : z9.cell? ⟨gt, 0, none⟩ = some (.string (strOf x)) := HGT.out _ S9.out.mods 0 _ rfl
          have c0 : z9.cell? ⟨b7, 9, none⟩ = some (.string ⟨#[]⟩) := (cell_of_row _ _ _ _ _ _ S9.out.row).trans rfl
          have f0 : z9.frozen? ⟨b7, 9, none⟩ = false := frozen_of_row _ _ _ _ _ S9.out.row
          go_upto_region 20 with fail
          have S10 : Hid (DcS w1 b2 (b2 + 1) b7 #[.int .u16 (x0 : Int), .int .u32 (x1 : Int), .int .u8 (x2 : Int), .int .u32 (x3 : Int), .int .u64 (x4 : Int), .int .u32 (x5 : Int), .int .u32 (x6 : Int), .int .u32 (x7 : Int), .int .u64 (x8 : Int), .string (strOf x), .string ⟨#[]⟩, .string ⟨#[]⟩, .string ⟨#[]⟩] _) := Lib.hid (S9.out.set N7.out 9 (.string (strOf x)))
          clear c0 f0 g0 S9
          generalize z9.setCell ⟨b7, 9, none⟩ (.string (strOf x)) = z10 at *
          have g0 : z10.cell? ⟨gt, 1, none⟩ = some (.string (strOf y)) := HGT.out _ S10.out.mods 1 _ rfl
          have c0 : z10.cell? ⟨b7, 10, none⟩ = some (.string ⟨#[]⟩) := (cell_of_row _ _ _ _ _ _ S10.out.row).trans rfl
          have f0 : z10.frozen? ⟨b7, 10, none⟩ = false := frozen_of_row _ _ _ _ _ S10.out.row
          go_upto_region 21 with fail
          have S11 : Hid (DcS w1 b2 (b2 + 1) b7 #[.int .u16 (x0 : Int), .int .u32 (x1 : Int), .int .u8 (x2 : Int), .int .u32 (x3 : Int), .int .u64 (x4 : Int), .int .u32 (x5 : Int), .int .u32 (x6 : Int), .int .u32 (x7 : Int), .int .u64 (x8 : Int), .string (strOf x), .string (strOf y), .string ⟨#[]⟩, .string ⟨#[]⟩] _) := Lib.hid (S10.out.set N7.out 10 (.string (strOf y)))
          clear c0 f0 g0 S10
          generalize z10.setCell ⟨b7, 10, none⟩ (.string (strOf y)) = z11 at *
          have g0 : z11.cell? ⟨gt, 2, none⟩ = some (.string (strOf z)) := HGT.out _ S11.out.mods 2 _ rfl
          have c0 : z11.cell? ⟨b7, 11, none⟩ = some (.string ⟨#[]⟩) := (cell_of_row _ _ _ _ _ _ S11.out.row).trans rfl
          have f0 : z11.frozen? ⟨b7, 11, none⟩ = false := frozen_of_row _ _ _ _ _ S11.out.row
          go_upto_region 22 with fail
          have S12 : Hid (DcS w1 b2 (b2 + 1) b7 #[.int .u16 (x0 : Int), .int .u32 (x1 : Int), .int .u8 (x2 : Int), .int .u32 (x3 : Int), .int .u64 (x4 : Int), .int .u32 (x5 : Int), .int .u32 (x6 : Int), .int .u32 (x7 : Int), .int .u64 (x8 : Int), .string (strOf x), .string (strOf y), .string (strOf z), .string ⟨#[]⟩] _) := Lib.hid (S11.out.set N7.out 11 (.string (strOf z)))
          clear c0 f0 g0 S11
          generalize z11.setCell ⟨b7, 11, none⟩ (.string (strOf z)) = z12 at *
          have g0 : z12.cell? ⟨gt, 3, none⟩ = some (.string (strOf u)) := HGT.out _ S12.out.mods 3 _ rfl
          have c0 : z12.cell? ⟨b7, 12, none⟩ = some (.string ⟨#[]⟩) := (cell_of_row _ _ _ _ _ _ S12.out.row).trans rfl
          have f0 : z12.frozen? ⟨b7, 12, none⟩ = false := frozen_of_row _ _ _ _ _ S12.out.row
          go_upto_region 23 with fail
          have S13 : Hid (DcS w1 b2 (b2 + 1) b7 #[.int .u16 (x0 : Int), .int .u32 (x1 : Int), .int .u8 (x2 : Int), .int .u32 (x3 : Int), .int .u64 (x4 : Int), .int .u32 (x5 : Int), .int .u32 (x6 : Int), .int .u32 (x7 : Int), .int .u64 (x8 : Int), .string (strOf x), .string (strOf y), .string (strOf z), .string (strOf u)] _) := Lib.hid (S12.out.set N7.out 12 (.string (strOf u)))
          clear c0 f0 g0 S12
          generalize z12.setCell ⟨b7, 12, none⟩ (.string (strOf u)) = z13 at *
          have c0 : z13.cell? ⟨b7, 0, none⟩ = some (.int .u16 (x0 : Int)) := (cell_of_row _ _ _ _ _ _ S13.out.row).trans rfl
          have d0 : z13.cell? ⟨b2, 0, none⟩ = some (.int .u16 0) := (cell_of_row _ _ _ _ _ _ S13.out.res).trans rfl
          have k0 : z13.frozen? ⟨b2, 0, none⟩ = false := frozen_of_row _ _ _ _ _ S13.out.res
          have c1 : z13.cell? ⟨b7, 1, none⟩ = some (.int .u32 (x1 : Int)) := (cell_of_row _ _ _ _ _ _ S13.out.row).trans rfl
          have d1 : z13.cell? ⟨b2, 1, none⟩ = some (.int .u32 0) := (cell_of_row _ _ _ _ _ _ S13.out.res).trans rfl
          have k1 : z13.frozen? ⟨b2, 1, none⟩ = false := frozen_of_row _ _ _ _ _ S13.out.res
          have c2 : z13.cell? ⟨b7, 2, none⟩ = some (.int .u8 (x2 : Int)) := (cell_of_row _ _ _ _ _ _ S13.out.row).trans rfl
          have d2 : z13.cell? ⟨b2, 2, none⟩ = some (.int .u8 0) := (cell_of_row _ _ _ _ _ _ S13.out.res).trans rfl
          have k2 : z13.frozen? ⟨b2, 2, none⟩ = false := frozen_of_row _ _ _ _ _ S13.out.res
          have c3 : z13.cell? ⟨b7, 3, none⟩ = some (.int .u32 (x3 : Int)) := (cell_of_row _ _ _ _ _ _ S13.out.row).trans rfl
          have d3 : z13.cell? ⟨b2, 3, none⟩ = some (.int .u32 0) := (cell_of_row _ _ _ _ _ _ S13.out.res).trans rfl
          have k3 : z13.frozen? ⟨b2, 3, none⟩ = false := frozen_of_row _ _ _ _ _ S13.out.res
          have c4 : z13.cell? ⟨b7, 4, none⟩ = some (.int .u64 (x4 : Int)) := (cell_of_row _ _ _ _ _ _ S13.out.row).trans rfl
          have d4 : z13.cell? ⟨b2, 4, none⟩ = some (.int .u64 0) := (cell_of_row _ _ _ _ _ _ S13.out.res).trans rfl
          have k4 : z13.frozen? ⟨b2, 4, none⟩ = false := frozen_of_row _ _ _ _ _ S13.out.res
          have c5 : z13.cell? ⟨b7, 5, none⟩ = some (.int .u32 (x5 : Int)) := (cell_of_row _ _ _ _ _ _ S13.out.row).trans rfl
          have d5 : z13.cell? ⟨b2, 5, none⟩ = some (.int .u32 0) := (cell_of_row _ _ _ _ _ _ S13.out.res).trans rfl
          have k5 : z13.frozen? ⟨b2, 5, none⟩ = false := frozen_of_row _ _ _ _ _ S13.out.res
          have c6 : z13.cell? ⟨b7, 6, none⟩ = some (.int .u32 (x6 : Int)) := (cell_of_row _ _ _ _ _ _ S13.out.row).trans rfl
          have d6 : z13.cell? ⟨b2, 6, none⟩ = some (.int .u32 0) := (cell_of_row _ _ _ _ _ _ S13.out.res).trans rfl
          have k6 : z13.frozen? ⟨b2, 6, none⟩ = false := frozen_of_row _ _ _ _ _ S13.out.res
          have c7 : z13.cell? ⟨b7, 7, none⟩ = some (.int .u32 (x7 : Int)) := (cell_of_row _ _ _ _ _ _ S13.out.row).trans rfl
          have d7 : z13.cell? ⟨b2, 7, none⟩ = some (.int .u32 0) := (cell_of_row _ _ _ _ _ _ S13.out.res).trans rfl
          have k7 : z13.frozen? ⟨b2, 7, none⟩ = false := frozen_of_row _ _ _ _ _ S13.out.res
          have c8 : z13.cell? ⟨b7, 8, none⟩ = some (.int .u64 (x8 : Int)) := (cell_of_row _ _ _ _ _ _ S13.out.row).trans rfl
          have d8 : z13.cell? ⟨b2, 8, none⟩ = some (.int .u64 0) := (cell_of_row _ _ _ _ _ _ S13.out.res).trans rfl
          have k8 : z13.frozen? ⟨b2, 8, none⟩ = false := frozen_of_row _ _ _ _ _ S13.out.res
          have c9 : z13.cell? ⟨b7, 9, none⟩ = some (.string (strOf x)) := (cell_of_row _ _ _ _ _ _ S13.out.row).trans rfl
          have d9 : z13.cell? ⟨b2, 9, none⟩ = some (.string ⟨#[]⟩) := (cell_of_row _ _ _ _ _ _ S13.out.res).trans rfl
          have k9 : z13.frozen? ⟨b2, 9, none⟩ = false := frozen_of_row _ _ _ _ _ S13.out.res
          have c10 : z13.cell? ⟨b7, 10, none⟩ = some (.string (strOf y)) := (cell_of_row _ _ _ _ _ _ S13.out.row).trans rfl
          have d10 : z13.cell? ⟨b2, 10, none⟩ = some (.string ⟨#[]⟩) := (cell_of_row _ _ _ _ _ _ S13.out.res).trans rfl
          have k10 : z13.frozen? ⟨b2, 10, none⟩ = false := frozen_of_row _ _ _ _ _ S13.out.res
          have c11 : z13.cell? ⟨b7, 11, none⟩ = some (.string (strOf z)) := (cell_of_row _ _ _ _ _ _ S13.out.row).trans rfl
          have d11 : z13.cell? ⟨b2, 11, none⟩ = some (.string ⟨#[]⟩) := (cell_of_row _ _ _ _ _ _ S13.out.res).trans rfl
          have k11 : z13.frozen? ⟨b2, 11, none⟩ = false := frozen_of_row _ _ _ _ _ S13.out.res
          have c12 : z13.cell? ⟨b7, 12, none⟩ = some (.string (strOf u)) := (cell_of_row _ _ _ _ _ _ S13.out.row).trans rfl
          have d12 : z13.cell? ⟨b2, 12, none⟩ = some (.string ⟨#[]⟩) := (cell_of_row _ _ _ _ _ _ S13.out.res).trans rfl
          have k12 : z13.frozen? ⟨b2, 12, none⟩ = false := frozen_of_row _ _ _ _ _ S13.out.res
          go_wp2_with fail
          refine bodyPost_ret (v := .tuple #[.agg #[.int .u16 (x0 : Int), .int .u32 (x1 : Int), .int .u8 (x2 : Int), .int .u32 (x3 : Int), .int .u64 (x4 : Int), .int .u32 (x5 : Int), .int .u32 (x6 : Int), .int .u32 (x7 : Int), .int .u64 (x8 : Int), .string (strOf x), .string (strOf y), .string (strOf z), .string (strOf u)], .int .i64 0]) (by simp [results, Tryz.results27, go_sem, d0, d1, d2, d3, d4, d5, d6, d7, d8, d9, d10, d11, d12]) rfl ?_
          rw [HD.out]
          refine ⟨?_, ((((((((((((((M1.out.trans S13.out.mods (by simp)).setCell (p := ⟨b2, 0, none⟩) (Or.inr (by simp; omega)) (.int .u16 (x0 : Int))).setCell (p := ⟨b2, 1, none⟩) (Or.inr (by simp; omega)) (.int .u32 (x1 : Int))).setCell (p := ⟨b2, 2, none⟩) (Or.inr (by simp; omega)) (.int .u8 (x2 : Int))).setCell (p := ⟨b2, 3, none⟩) (Or.inr (by simp; omega)) (.int .u32 (x3 : Int))).setCell (p := ⟨b2, 4, none⟩) (Or.inr (by simp; omega)) (.int .u64 (x4 : Int))).setCell (p := ⟨b2, 5, none⟩) (Or.inr (by simp; omega)) (.int .u32 (x5 : Int))).setCell (p := ⟨b2, 6, none⟩) (Or.inr (by simp; omega)) (.int .u32 (x6 : Int))).setCell (p := ⟨b2, 7, none⟩) (Or.inr (by simp; omega)) (.int .u32 (x7 : Int))).setCell (p := ⟨b2, 8, none⟩) (Or.inr (by simp; omega)) (.int .u64 (x8 : Int))).setCell (p := ⟨b2, 9, none⟩) (Or.inr (by simp; omega)) (.string (strOf x))).setCell (p := ⟨b2, 10, none⟩) (Or.inr (by simp; omega)) (.string (strOf y))).setCell (p := ⟨b2, 11, none⟩) (Or.inr (by simp; omega)) (.string (strOf z))).setCell (p := ⟨b2, 12, none⟩) (Or.inr (by simp; omega)) (.string (strOf u)))⟩
          rw [← HX0.out, ← HX1.out, ← HX2.out, ← HX3.out, ← HX4.out, ← HX5.out, ← HX6.out, ← HX7.out, ← HX8.out]
          rfl
        · have HD := Lib.hid (decR_end hr h3)
          have hb : ((r.2 : Int) != (l.length : Int)) = true := by rw [bne_iff_ne]; omega
          have c0 : w1.cell? ⟨b2 + 1, 0, none⟩ = some (.int .u16 0) := (cell_of_row _ _ _ _ _ _ Y1.out).trans rfl
          have d0 : w1.cell? ⟨b2, 0, none⟩ = some (.int .u16 0) := (cell_of_row _ _ _ _ _ _ Z1.out).trans rfl
          have k0 : w1.frozen? ⟨b2, 0, none⟩ = false := frozen_of_row _ _ _ _ _ Z1.out
          have c1 : w1.cell? ⟨b2 + 1, 1, none⟩ = some (.int .u32 0) := (cell_of_row _ _ _ _ _ _ Y1.out).trans rfl
          have d1 : w1.cell? ⟨b2, 1, none⟩ = some (.int .u32 0) := (cell_of_row _ _ _ _ _ _ Z1.out).trans rfl
          have k1 : w1.frozen? ⟨b2, 1, none⟩ = false := frozen_of_row _ _ _ _ _ Z1.out
          have c2 : w1.cell? ⟨b2 + 1, 2, none⟩ = some (.int .u8 0) := (cell_of_row _ _ _ _ _ _ Y1.out).trans rfl
          have d2 : w1.cell? ⟨b2, 2, none⟩ = some (.int .u8 0) := (cell_of_row _ _ _ _ _ _ Z1.out).trans rfl
          have k2 : w1.frozen? ⟨b2, 2, none⟩ = false := frozen_of_row _ _ _ _ _ Z1.out
          have c3 : w1.cell? ⟨b2 + 1, 3, none⟩ = some (.int .u32 0) := (cell_of_row _ _ _ _ _ _ Y1.out).trans rfl
          have d3 : w1.cell? ⟨b2, 3, none⟩ = some (.int .u32 0) := (cell_of_row _ _ _ _ _ _ Z1.out).trans rfl
          have k3 : w1.frozen? ⟨b2, 3, none⟩ = false := frozen_of_row _ _ _ _ _ Z1.out
          have c4 : w1.cell? ⟨b2 + 1, 4, none⟩ = some (.int .u64 0) := (cell_of_row _ _ _ _ _ _ Y1.out).trans rfl
          have d4 : w1.cell? ⟨b2, 4, none⟩ = some (.int .u64 0) := (cell_of_row _ _ _ _ _ _ Z1.out).trans rfl
          have k4 : w1.frozen? ⟨b2, 4, none⟩ = false := frozen_of_row _ _ _ _ _ Z1.out
          have c5 : w1.cell? ⟨b2 + 1, 5, none⟩ = some (.int .u32 0) := (cell_of_row _ _ _ _ _ _ Y1.out).trans rfl
          have d5 : w1.cell? ⟨b2, 5, none⟩ = some (.int .u32 0) := (cell_of_row _ _ _ _ _ _ Z1.out).trans rfl
          have k5 : w1.frozen? ⟨b2, 5, none⟩ = false := frozen_of_row _ _ _ _ _ Z1.out
          have c6 : w1.cell? ⟨b2 + 1, 6, none⟩ = some (.int .u32 0) := (cell_of_row _ _ _ _ _ _ Y1.out).trans rfl
          have d6 : w1.cell? ⟨b2, 6, none⟩ = some (.int .u32 0) := (cell_of_row _ _ _ _ _ _ Z1.out).trans rfl
          have k6 : w1.frozen? ⟨b2, 6, none⟩ = false := frozen_of_row _ _ _ _ _ Z1.out
          have c7 : w1.cell? ⟨b2 + 1, 7, none⟩ = some (.int .u32 0) := (cell_of_row _ _ _ _ _ _ Y1.out).trans rfl
          have d7 : w1.cell? ⟨b2, 7, none⟩ = some (.int .u32 0) := (cell_of_row _ _ _ _ _ _ Z1.out).trans rfl
          have k7 : w1.frozen? ⟨b2, 7, none⟩ = false := frozen_of_row _ _ _ _ _ Z1.out
          have c8 : w1.cell? ⟨b2 + 1, 8, none⟩ = some (.int .u64 0) := (cell_of_row _ _ _ _ _ _ Y1.out).trans rfl
          have d8 : w1.cell? ⟨b2, 8, none⟩ = some (.int .u64 0) := (cell_of_row _ _ _ _ _ _ Z1.out).trans rfl
          have k8 : w1.frozen? ⟨b2, 8, none⟩ = false := frozen_of_row _ _ _ _ _ Z1.out
          have c9 : w1.cell? ⟨b2 + 1, 9, none⟩ = some (.string ⟨#[]⟩) := (cell_of_row _ _ _ _ _ _ Y1.out).trans rfl
          have d9 : w1.cell? ⟨b2, 9, none⟩ = some (.string ⟨#[]⟩) := (cell_of_row _ _ _ _ _ _ Z1.out).trans rfl
          have k9 : w1.frozen? ⟨b2, 9, none⟩ = false := frozen_of_row _ _ _ _ _ Z1.out
          have c10 : w1.cell? ⟨b2 + 1, 10, none⟩ = some (.string ⟨#[]⟩) := (cell_of_row _ _ _ _ _ _ Y1.out).trans rfl
          have d10 : w1.cell? ⟨b2, 10, none⟩ = some (.string ⟨#[]⟩) := (cell_of_row _ _ _ _ _ _ Z1.out).trans rfl
          have k10 : w1.frozen? ⟨b2, 10, none⟩ = false := frozen_of_row _ _ _ _ _ Z1.out
          have c11 : w1.cell? ⟨b2 + 1, 11, none⟩ = some (.string ⟨#[]⟩) := (cell_of_row _ _ _ _ _ _ Y1.out).trans rfl
          have d11 : w1.cell? ⟨b2, 11, none⟩ = some (.string ⟨#[]⟩) := (cell_of_row _ _ _ _ _ _ Z1.out).trans rfl
          have k11 : w1.frozen? ⟨b2, 11, none⟩ = false := frozen_of_row _ _ _ _ _ Z1.out
          have c12 : w1.cell? ⟨b2 + 1, 12, none⟩ = some (.string ⟨#[]⟩) := (cell_of_row _ _ _ _ _ _ Y1.out).trans rfl
          have d12 : w1.cell? ⟨b2, 12, none⟩ = some (.string ⟨#[]⟩) := (cell_of_row _ _ _ _ _ _ Z1.out).trans rfl
          have k12 : w1.frozen? ⟨b2, 12, none⟩ = false := frozen_of_row _ _ _ _ _ Z1.out
          go_wp2_with fail
          refine bodyPost_ret (v := .tuple #[.agg #[.int .u16 0, .int .u32 0, .int .u8 0, .int .u32 0, .int .u64 0, .int .u32 0, .int .u32 0, .int .u32 0, .int .u64 0, .string ⟨#[]⟩, .string ⟨#[]⟩, .string ⟨#[]⟩, .string ⟨#[]⟩], .int .i64 20]) (by simp [results, Tryz.results27, go_sem, d0, d1, d2, d3, d4, d5, d6, d7, d8, d9, d10, d11, d12]) rfl ?_
          rw [HD.out]
          exact ⟨rfl, (((((((((((((M1.out.setCell (p := ⟨b2, 0, none⟩) (Or.inr (by simp; omega)) (.int .u16 0)).setCell (p := ⟨b2, 1, none⟩) (Or.inr (by simp; omega)) (.int .u32 0)).setCell (p := ⟨b2, 2, none⟩) (Or.inr (by simp; omega)) (.int .u8 0)).setCell (p := ⟨b2, 3, none⟩) (Or.inr (by simp; omega)) (.int .u32 0)).setCell (p := ⟨b2, 4, none⟩) (Or.inr (by simp; omega)) (.int .u64 0)).setCell (p := ⟨b2, 5, none⟩) (Or.inr (by simp; omega)) (.int .u32 0)).setCell (p := ⟨b2, 6, none⟩) (Or.inr (by simp; omega)) (.int .u32 0)).setCell (p := ⟨b2, 7, none⟩) (Or.inr (by simp; omega)) (.int .u32 0)).setCell (p := ⟨b2, 8, none⟩) (Or.inr (by simp; omega)) (.int .u64 0)).setCell (p := ⟨b2, 9, none⟩) (Or.inr (by simp; omega)) (.string ⟨#[]⟩)).setCell (p := ⟨b2, 10, none⟩) (Or.inr (by simp; omega)) (.string ⟨#[]⟩)).setCell (p := ⟨b2, 11, none⟩) (Or.inr (by simp; omega)) (.string ⟨#[]⟩)).setCell (p := ⟨b2, 12, none⟩) (Or.inr (by simp; omega)) (.string ⟨#[]⟩))⟩
    · have hb2 : ((n : Int) + 2 != (l.length : Int)) = true := by rw [bne_iff_ne]; omega
      have HD := Lib.hid (decR_size HN.out h2)
      have c0 : v0.cell? ⟨b2 + 1, 0, none⟩ = some (.int .u16 0) := (cell_of_row _ _ _ _ _ _ B1.out).trans rfl
      have d0 : v0.cell? ⟨b2, 0, none⟩ = some (.int .u16 0) := (cell_of_row _ _ _ _ _ _ B0.out).trans rfl
      have k0 : v0.frozen? ⟨b2, 0, none⟩ = false := frozen_of_row _ _ _ _ _ B0.out
      have c1 : v0.cell? ⟨b2 + 1, 1, none⟩ = some (.int .u32 0) := (cell_of_row _ _ _ _ _ _ B1.out).trans rfl
      have d1 : v0.cell? ⟨b2, 1, none⟩ = some (.int .u32 0) := (cell_of_row _ _ _ _ _ _ B0.out).trans rfl
      have k1 : v0.frozen? ⟨b2, 1, none⟩ = false := frozen_of_row _ _ _ _ _ B0.out
      have c2 : v0.cell? ⟨b2 + 1, 2, none⟩ = some (.int .u8 0) := (cell_of_row _ _ _ _ _ _ B1.out).trans rfl
      have d2 : v0.cell? ⟨b2, 2, none⟩ = some (.int .u8 0) := (cell_of_row _ _ _ _ _ _ B0.out).trans rfl
      have k2 : v0.frozen? ⟨b2, 2, none⟩ = false := frozen_of_row _ _ _ _ _ B0.out
      have c3 : v0.cell? ⟨b2 + 1, 3, none⟩ = some (.int .u32 0) := (cell_of_row _ _ _ _ _ _ B1.out).trans rfl
      have d3 : v0.cell? ⟨b2, 3, none⟩ = some (.int .u32 0) := (cell_of_row _ _ _ _ _ _ B0.out).trans rfl
      have k3 : v0.frozen? ⟨b2, 3, none⟩ = false := frozen_of_row _ _ _ _ _ B0.out
      have c4 : v0.cell? ⟨b2 + 1, 4, none⟩ = some (.int .u64 0) := (cell_of_row _ _ _ _ _ _ B1.out).trans rfl
      have d4 : v0.cell? ⟨b2, 4, none⟩ = some (.int .u64 0) := (cell_of_row _ _ _ _ _ _ B0.out).trans rfl
      have k4 : v0.frozen? ⟨b2, 4, none⟩ = false := frozen_of_row _ _ _ _ _ B0.out
      have c5 : v0.cell? ⟨b2 + 1, 5, none⟩ = some (.int .u32 0) := (cell_of_row _ _ _ _ _ _ B1.out).trans rfl
      have d5 : v0.cell? ⟨b2, 5, none⟩ = some (.int .u32 0) := (cell_of_row _ _ _ _ _ _ B0.out).trans rfl
      have k5 : v0.frozen? ⟨b2, 5, none⟩ = false := frozen_of_row _ _ _ _ _ B0.out
      have c6 : v0.cell? ⟨b2 + 1, 6, none⟩ = some (.int .u32 0) := (cell_of_row _ _ _ _ _ _ B1.out).trans rfl
      have d6 : v0.cell? ⟨b2, 6, none⟩ = some (.int .u32 0) := (cell_of_row _ _ _ _ _ _ B0.out).trans rfl
      have k6 : v0.frozen? ⟨b2, 6, none⟩ = false := frozen_of_row _ _ _ _ _ B0.out
      have c7 : v0.cell? ⟨b2 + 1, 7, none⟩ = some (.int .u32 0) := (cell_of_row _ _ _ _ _ _ B1.out).trans rfl
      have d7 : v0.cell? ⟨b2, 7, none⟩ = some (.int .u32 0) := (cell_of_row _ _ _ _ _ _ B0.out).trans rfl
      have k7 : v0.frozen? ⟨b2, 7, none⟩ = false := frozen_of_row _ _ _ _ _ B0.out
      have c8 : v0.cell? ⟨b2 + 1, 8, none⟩ = some (.int .u64 0) := (cell_of_row _ _ _ _ _ _ B1.out).trans rfl
      have d8 : v0.cell? ⟨b2, 8, none⟩ = some (.int .u64 0) := (cell_of_row _ _ _ _ _ _ B0.out).trans rfl
      have k8 : v0.frozen? ⟨b2, 8, none⟩ = false := frozen_of_row _ _ _ _ _ B0.out
      have c9 : v0.cell? ⟨b2 + 1, 9, none⟩ = some (.string ⟨#[]⟩) := (cell_of_row _ _ _ _ _ _ B1.out).trans rfl
      have d9 : v0.cell? ⟨b2, 9, none⟩ = some (.string ⟨#[]⟩) := (cell_of_row _ _ _ _ _ _ B0.out).trans rfl
      have k9 : v0.frozen? ⟨b2, 9, none⟩ = false := frozen_of_row _ _ _ _ _ B0.out
      have c10 : v0.cell? ⟨b2 + 1, 10, none⟩ = some (.string ⟨#[]⟩) := (cell_of_row _ _ _ _ _ _ B1.out).trans rfl
      have d10 : v0.cell? ⟨b2, 10, none⟩ = some (.string ⟨#[]⟩) := (cell_of_row _ _ _ _ _ _ B0.out).trans rfl
      have k10 : v0.frozen? ⟨b2, 10, none⟩ = false := frozen_of_row _ _ _ _ _ B0.out
      have c11 : v0.cell? ⟨b2 + 1, 11, none⟩ = some (.string ⟨#[]⟩) := (cell_of_row _ _ _ _ _ _ B1.out).trans rfl
      have d11 : v0.cell? ⟨b2, 11, none⟩ = some (.string ⟨#[]⟩) := (cell_of_row _ _ _ _ _ _ B0.out).trans rfl
      have k11 : v0.frozen? ⟨b2, 11, none⟩ = false := frozen_of_row _ _ _ _ _ B0.out
      have c12 : v0.cell? ⟨b2 + 1, 12, none⟩ = some (.string ⟨#[]⟩) := (cell_of_row _ _ _ _ _ _ B1.out).trans rfl
      have d12 : v0.cell? ⟨b2, 12, none⟩ = some (.string ⟨#[]⟩) := (cell_of_row _ _ _ _ _ _ B0.out).trans rfl
      have k12 : v0.frozen? ⟨b2, 12, none⟩ = false := frozen_of_row _ _ _ _ _ B0.out
      go_wp2_with fail
      refine bodyPost_ret (v := .tuple #[.agg #[.int .u16 0, .int .u32 0, .int .u8 0, .int .u32 0, .int .u64 0, .int .u32 0, .int .u32 0, .int .u32 0, .int .u64 0, .string ⟨#[]⟩, .string ⟨#[]⟩, .string ⟨#[]⟩, .string ⟨#[]⟩], .int .i64 20]) (by simp [results, Tryz.results27, go_sem, d0, d1, d2, d3, d4, d5, d6, d7, d8, d9, d10, d11, d12]) rfl ?_
      rw [HD.out]
      exact ⟨rfl, (((((((((((((M0.out.setCell (p := ⟨b2, 0, none⟩) (Or.inr (by simp; omega)) (.int .u16 0)).setCell (p := ⟨b2, 1, none⟩) (Or.inr (by simp; omega)) (.int .u32 0)).setCell (p := ⟨b2, 2, none⟩) (Or.inr (by simp; omega)) (.int .u8 0)).setCell (p := ⟨b2, 3, none⟩) (Or.inr (by simp; omega)) (.int .u32 0)).setCell (p := ⟨b2, 4, none⟩) (Or.inr (by simp; omega)) (.int .u64 0)).setCell (p := ⟨b2, 5, none⟩) (Or.inr (by simp; omega)) (.int .u32 0)).setCell (p := ⟨b2, 6, none⟩) (Or.inr (by simp; omega)) (.int .u32 0)).setCell (p := ⟨b2, 7, none⟩) (Or.inr (by simp; omega)) (.int .u32 0)).setCell (p := ⟨b2, 8, none⟩) (Or.inr (by simp; omega)) (.int .u64 0)).setCell (p := ⟨b2, 9, none⟩) (Or.inr (by simp; omega)) (.string ⟨#[]⟩)).setCell (p := ⟨b2, 10, none⟩) (Or.inr (by simp; omega)) (.string ⟨#[]⟩)).setCell (p := ⟨b2, 11, none⟩) (Or.inr (by simp; omega)) (.string ⟨#[]⟩)).setCell (p := ⟨b2, 12, none⟩) (Or.inr (by simp; omega)) (.string ⟨#[]⟩))⟩
end Go.Proofs.YtnpokdbpmnkbjaaGreatDoor
