/- The reference's Each, Records. -/
import Derived.Test.YtnpokdbpmnkbjaaGreatDoorZe
import Derived.Test.YtnpokdbpmnkbjaaGreatDoorOf
import Derived.Test.YtnpokdbpmnkbjaaGreatDoorPl
import Derived.Deep.CutBlock
import Derived.Deep.CutRange
namespace Go.Proofs.YtnpokdbpmnkbjaaGreatDoor
open Go.RowKit Me

def placeV (x : Nat × StatP) : Value := .int .i64 (x.1 : Int)
def RelEa (l : List UInt8) (w : World) (va vl q : Value) (wr : World) : Prop :=
  ∃ k p : Nat, k ≤ (recs (rsAt l 0)).length ∧ p ≤ l.length ∧ k ≤ p ∧ q = .int .i64 (p : Int) ∧ recs (rsAt l p) = (recs (rsAt l 0)).drop k ∧
    wr.ownsRow w.heap.size 3 1 va k (((recs (rsAt l 0)).take k).map placeV) ∧ wr.ownsRow w.heap.size 35 13 vl k (flatS ((recs (rsAt l 0)).take k)) ∧ Mods [] w wr
/-- What the reference's Each leaves. -/
def EaPost (w : World) (L : List (Nat × StatP)) (e : Ending) (w' : World) : Prop :=
  ∃ va vl : Value, e = .returned (.tuple #[va, vl]) ∧ w'.ownsRow w.heap.size 3 1 va L.length (L.map placeV) ∧ w'.ownsRow w.heap.size 35 13 vl L.length (flatS L) ∧ Mods [] w w'
set_option maxRecDepth 100000 in
set_option maxHeartbeats 1000000 in
theorem reach_any {w : World} {vx : Value} (l : List UInt8) (hx : Rd w vx (l.map byteV)) (hl : l.length ≤ 1000000000) :
    Calls Tryz.prog 33 #[vx] w (EaPost w (recs (rsAt l 0))) := by
  have HX := Lib.hid hx
  obtain ⟨A, c, rfl, hc1, hc2⟩ := rd_slice hx
  clear hx
  obtain ⟨i3, hi, hz0, hz1, hz2⟩ := info_parts info3
  obtain ⟨i35, hj, hy0, hy1, hy2⟩ := info_parts info90'
  go_enter Tryz.func33, Tryz.ntmps33
  go_wp2_with fail
  go_loopw [4, 5, 6] (fun va vl q wr => RelEa l w va vl q wr) (fun _ _ i _ => l.length - (intOf i).toNat)
  case atStart => exact ⟨0, 0, by omega, by omega, by omega, rfl, rfl, World.ownsRow_nil _ _ _ _, World.ownsRow_nil _ _ _ _, Mods.refl _ _⟩
  case round =>
    obtain ⟨k, p, hk, hp, hkp, rfl, hrc, hoa, hol, hm⟩ := hrel
    have HRC := Lib.hid hrc
    have HA := Lib.hid hoa
    have HL := Lib.hid hol
    have HM := Lib.hid hm
    have HXr := Lib.hid (HX.out.mods hm (by simp))
    obtain ⟨Aa, ca, rfl⟩ := own_ctor hoa
    obtain ⟨Al, cl, rfl⟩ := own_ctor hol
    have HEND : Hid ((recs (rsAt l 0)).drop k = [] → wr.ownsRow w.heap.size 3 1 (.slice Aa k ca) (recs (rsAt l 0)).length ((recs (rsAt l 0)).map placeV) ∧ wr.ownsRow w.heap.size 35 13 (.slice Al k cl) (recs (rsAt l 0)).length (flatS (recs (rsAt l 0)))) := by
      refine Lib.hid fun he => ?_
      have hkl : k = (recs (rsAt l 0)).length := by have := List.drop_eq_nil_iff.1 he; omega
      have h1 := HA.out
      have h2 := HL.out
      rw [List.take_of_length_le (by omega)] at h1 h2
      rw [← hkl]
      exact ⟨h1, h2⟩
    clear hrc hoa hol hm
    have s1 : IntKind.i64.wrap ((p : Int) + 2) = (p : Int) + 2 := IntWalk.i64_in _ (by omega)
    by_cases h1 : p + 2 ≤ l.length
    · have hb : decide ((p : Int) + 2 ≤ (l.length : Int)) = true := by simp; omega
      have HG := Lib.hid (get_any (w := wr) l HXr.out (by omega) p 2 (by omega) (by omega))
      have hv := val_small l p 2
      simp only [Nat.reducePow] at hv
      generalize hn : val ((l.drop p).take 2) = n at *
      have HN := Lib.hid hn
      clear hn
      have s2 : IntKind.i64.wrap (n : Int) = (n : Int) := IntWalk.i64_in _ (by omega)
      have s3 : IntKind.i64.wrap ((n : Int) + 2) = (n : Int) + 2 := IntWalk.i64_in _ (by omega)
      have s4 : IntKind.i64.wrap ((p : Int) + ((n : Int) + 2)) = (p : Int) + ((n : Int) + 2) := IntWalk.i64_in _ (by omega)
      go_wp2_with fail
      refine HG.out.mono ?_; rintro e w1 ⟨rfl, rfl⟩
      by_cases h2 : l.length < p + (n + 2)
      · have hb : decide ((l.length : Int) < (p : Int) + ((n : Int) + 2)) = true := by simp; omega
        have hbad := rs_bad (n := n + 2) (by rw [HN.out]) (Or.inl h2)
        rw [HRC.out] at hbad
        have HE := Lib.hid (HEND.out hbad)
        clear hbad
        go_wp2_with fail
        go_ret2
        exact ⟨_, _, rfl, HE.out.1, HE.out.2, HM.out⟩
      · have hb : decide ((l.length : Int) < (p : Int) + ((n : Int) + 2)) = false := by simp; omega
        obtain ⟨g, off, hA, -⟩ := rd_at HX.out (j := 0) (by omega)
        subst hA
        have hrd := rd_part (p := p) (n := n + 2) HXr.out (by simp) (by omega)
        rw [if_neg (by omega), ← List.map_drop, ← List.map_take] at hrd
        have HD := Lib.hid (rdecode_any (w := wr) ((l.drop p).take (n + 2)) hrd (by simp; omega))
        simp only [decR_eq] at HD
        clear hrd
        have hrk : ∀ e, (decode ((l.drop p).take (n + 2))).2 = e → e = 0 → recs (rsAt l p) = (p, (decode ((l.drop p).take (n + 2))).1) :: recs (rsAt l (p + (n + 2))) := fun e he h0 => (rs_good (n := n + 2) (by omega) (by rw [he, h0])).1
        have hrb : ∀ e, (decode ((l.drop p).take (n + 2))).2 = e → e ≠ 0 → recs (rsAt l p) = [] := fun e he h0 => rs_bad (n := n + 2) (by rw [HN.out]) (Or.inr (by rw [he]; exact h0))
        generalize decode ((l.drop p).take (n + 2)) = D at *
        obtain ⟨s, er⟩ := D
        simp only at HD hrk hrb
        rw [HRC.out] at hrk hrb
        have HRK := Lib.hid (hrk er rfl)
        have HRB := Lib.hid (hrb er rfl)
        clear hrk hrb
        go_wp2_with fail
        refine HD.out.mono ?_; rintro e w2 ⟨rfl, hm2⟩
        have hstore := run_store_new (P := Tryz.prog) w2 zeroV (statV s) 35 rfl (statV_one s)
        unfold zeroV at hstore
        have hm3 := hm2.alloc (.cells (statV s) 35)
        have HM3 := Lib.hid hm3
        have HB3 := Lib.hid (heap_alloc_new w2 (.cells (statV s) 35))
        have HSZ := Lib.hid hm2.size
        clear hm2 hm3
        by_cases he : er = 0
        · have hb : ((er : Int) != 0) = false := by rw [he]; rfl
          obtain ⟨hx1, hx2, hx3⟩ := drop_head (HRK.out he)
          have HX1 := Lib.hid hx1
          have HX2 := Lib.hid hx2
          clear hx1 hx2
          go_upto_region 11 with fail
          clear hstore
          generalize hw3 : w2.alloc (.cells (statV s) 35) = w3 at *
          generalize hb8 : w2.heap.size = b8 at *
          have HA3 := Lib.hid (ownsRow_mods HA.out HM3.out (by simp))
          have HL3 := Lib.hid (ownsRow_mods HL.out HM3.out (by simp))
          have HMw := Lib.hid (HM.out.trans HM3.out (by simp))
          have HT := Lib.hid (show (recs (rsAt l 0)).take (k + 1) = (recs (rsAt l 0)).take k ++ [(p, s)] by rw [List.take_add_one, HX1.out]; rfl)
          have HAK : Hid (∀ q, (Value.slice Aa k ca).ownBlock = some q → q < wr.heap.size ∧ w.heap.size ≤ q) := Lib.hid (fun q hq => ⟨ownsRow_lt HA.out q hq, (HA.out.lt q hq).1⟩)
          have HLK : Hid (∀ q, (Value.slice Al k cl).ownBlock = some q → q < wr.heap.size ∧ w.heap.size ≤ q) := Lib.hid (fun q hq => ⟨ownsRow_lt HL.out q hq, (HL.out.lt q hq).1⟩)
          have HW3 : Hid (w.heap.size ≤ w3.heap.size) := Lib.hid HMw.out.size
          clear HA HL hw3 HRK HRB HEND HX HXr
          go_wp2_with (at_builtin; go_must (refine wpList_app _ rfl _ _ 62 62 rfl w.heap.size 3 i3 (.int .i64 0) 1 8 Tryz.underlying62 hi hz0 hz1 hz2 rfl _ _ _ rfl (HA3.out.alloc _) _ 1 [.int .i64 (p : Int)] rfl ?c1 ?c2 ?c3 ?c4 ?_))
          case c1 => exact src_one Tryz.underlying62 _ _ _ rfl
          case c2 => unfold maxLen; omega
          case c3 => omega
          case c4 => have := HW3.out; simp; omega
          intro va w4 hown hgrow hat
          have hmA : Mods ((Value.slice Aa k ca).ownBlock.toList) w3 w4 := (((Mods.refl _ w3).alloc _).grown hgrow (fun b hb => Or.inl (by simp [hb])))
          have HM4 : Hid (Mods [] w w4) := Lib.hid (HMw.out.trans hmA (fun b hb => Or.inr (HAK.out b (by simpa using hb)).2))
          have HL4 := Lib.hid (ownsRow_mods HL3.out hmA (fun q hq hm => ownsRow_kind HA3.out HL3.out (by decide) q (by simpa using hm) hq))
          have hb4 := hmA.heap HB3.out (fun hm => by have := (HAK.out b8 (by simpa using hm)).1; have := HSZ.out; omega)
          have HA4 := Lib.hid hown
          obtain ⟨Aa2, ca2, rfl⟩ := own_ctor hown
          obtain ⟨c0, c1, c2, c3, c4, c5, c6, c7, c8, c9, c10, c11, c12⟩ := stat_cells hb4
          clear hown hgrow hat hmA hb4 HA3 HB3 HMw HM3 HL3
          go_wp2_with (at_builtin; go_must (refine wpList_app _ rfl _ _ 38 38 rfl w.heap.size 35 i35 (.agg zeroV) 13 112 Tryz.underlying38 hj hy0 hy1 hy2 rfl _ k _ rfl (HL4.out.alloc _) _ 1 (statV s).toList rfl ?d1 ?d2 ?d3 ?d4 ?_))
          case d1 => exact Src.ofSlice _ Tryz.underlying38 _ _ _ _ rfl (cells_new w4 (statV s).toList 35) (statV_one s)
          case d2 => unfold maxLen; omega
          case d3 => omega
          case d4 => have := HM4.out.size; simp; omega
          intro vl w5 hown hgrow hat
          have hmB : Mods ((Value.slice Al k cl).ownBlock.toList) w4 w5 := (((Mods.refl _ w4).alloc _).grown hgrow (fun b hb => Or.inl (by simp [hb])))
          have HM5 : Hid (Mods [] w w5) := Lib.hid (HM4.out.trans hmB (fun b hb => Or.inr (HLK.out b (by simpa using hb)).2))
          have HA5 := Lib.hid (ownsRow_mods HA4.out hmB (fun q hq hm => ownsRow_kind HA4.out HL4.out (by decide) q hq (by simpa using hm)))
          have HR : Hid (RelEa l w (.slice Aa2 (k + 1) ca2) vl (.int .i64 ((p : Int) + ((n : Int) + 2))) w5) := Lib.hid ⟨k + 1, p + (n + 2), by omega, by omega, by omega, rfl, HX2.out.symm, by rw [HT.out]; simpa [placeV] using HA5.out, by rw [HT.out, flatS_snoc]; simpa using hown, HM5.out⟩
          obtain ⟨Al2, cl2, rfl⟩ := own_ctor hown
          clear hown hgrow hat hmB c0 c1 c2 c3 c4 c5 c6 c7 c8 c9 c10 c11 c12
          go_wp2_with fail
          exact ⟨HR.out, by simp [intOf]; omega⟩
        · have hb : ((er : Int) != 0) = true := by rw [bne_iff_ne]; omega
          have HE := Lib.hid (HEND.out (HRB.out he))
          go_wp2_with fail
          go_ret2
          exact ⟨_, _, rfl, ownsRow_mods HE.out.1 HM3.out (by simp), ownsRow_mods HE.out.2 HM3.out (by simp), HM.out.trans HM3.out (by simp)⟩
    · have hb : decide ((p : Int) + 2 ≤ (l.length : Int)) = false := by simp; omega
      have hbad := rs_short (l := l) (p := p) (by omega)
      rw [HRC.out] at hbad
      have HE := Lib.hid (HEND.out hbad)
      clear hbad
      go_wp2_with fail
      go_ret2
      exact ⟨_, _, rfl, HE.out.1, HE.out.2, HM.out⟩
/-- The bytes of all of them. -/
def sumS (L : List (Nat × StatP)) : Nat := (L.map fun x => x.2.size).sum
theorem sumS_snoc (L : List (Nat × StatP)) (x : Nat × StatP) : sumS (L ++ [x]) = sumS L + x.2.size := by simp [sumS]
theorem sum_end (l : List UInt8) : ∀ (L : List (Nat × StatP)) (p : Nat), recs (rsAt l p) = L → L = [] ∨ endOf L = p + sumS L
  | [], _, _ => Or.inl rfl
  | x :: L, p, h => by
    refine Or.inr ?_
    have h0 : (rsAt l p).left ≠ 0 := fun e => by rw [recs_stop e] at h; cases h
    have he : (rsAt l p).stat.2.err = 0 := by
      by_cases g : (rsAt l p).stat.2.err = 0
      · exact g
      · rw [recs_err g] at h
        cases h
    have hn := recs_next h0 he
    rw [(rs_on he).2.2.2, show (rsAt l p).base + (rsAt l p).place = p by simp [rsAt]] at hn
    rw [hn] at h
    clear hn
    generalize (rsAt l p).stat.1 = s at *
    injection h with h1 h2
    subst h1
    clear h0 he
    rcases sum_end l L _ h2 with rfl | h3
    · simp [endOf, sumS]
    · have hne : L ≠ [] ∨ L = [] := by cases L <;> simp
      rcases hne with hne | rfl
      · have e1 : endOf ((p, s) :: L) = endOf L := by
          unfold endOf
          rw [List.getLast?_cons_of_ne_nil hne]
        rw [e1, h3]
        simp only [sumS, List.map_cons, List.sum_cons]
        omega
      · simp [endOf, sumS]
theorem sum_recs (l : List UInt8) : sumS (recs (rsAt l 0)) = endOf (recs (rsAt l 0)) := by
  rcases sum_end l _ 0 rfl with h | h
  · rw [h]
    rfl
  · omega
theorem sum_le (L : List (Nat × StatP)) (k : Nat) : sumS (L.take k) ≤ sumS L := by
  have h : sumS L = sumS (L.take k) + sumS (L.drop k) := by
    unfold sumS
    rw [← List.sum_append, ← List.map_append, List.take_append_drop]
  omega
theorem end_room (l : List UInt8) : endOf (recs (rsAt l 0)) ≤ l.length := by
  unfold endOf
  cases h : (recs (rsAt l 0)).getLast? with
  | none => simp
  | some x => 
    have h1 := (recsF_mem _ _ _ (List.mem_of_getLast? h)).2.2.2
    simpa [rsAt] using h1
def RelRc (L : List (Nat × StatP)) (w1 : World) (q i : Value) (wr : World) : Prop := ∃ k : Nat, k ≤ L.length ∧ i = .int .i64 (k : Int) ∧ q = .int .i64 (sumS (L.take k) : Int) ∧ Mods [] w1 wr
theorem sts_of_flatS {w : World} {base : Nat} {v : Value} {L : List (Nat × StatP)} (h : w.ownsRow base 35 13 v L.length (flatS L)) : Sts w v (L.map Prod.snd) := by
  refine Sts.of_own (n := L.length) (base := base) ?_ (by simp)
  have e : flatT (L.map Prod.snd) = flatS L := by simp [flatT, flatS, List.flatMap_map]
  rw [e]
  exact h
/-- What the reference's Records leaves. -/
def RrPost (w : World) (l : List UInt8) (e : Ending) (w' : World) : Prop :=
  ∃ vl : Value, e = .returned (.tuple #[vl, .int .i64 ((records l).2 : Int)]) ∧ w'.ownsRow w.heap.size 35 13 vl (records l).1.length (flatS (records l).1) ∧ Mods [] w w'
set_option maxRecDepth 100000 in
set_option maxHeartbeats 1000000 in
theorem rrecords_any {w : World} {vx : Value} (l : List UInt8) (hx : Rd w vx (l.map byteV)) (hl : l.length ≤ 1000000000) :
    Calls Tryz.prog 31 #[vx] w (RrPost w l) := by
  have HE := Lib.hid (reach_any l hx hl)
  obtain ⟨A, c, rfl, hc1, hc2⟩ := rd_slice hx
  clear hx
  have hsum := sum_recs l
  have hroom := end_room l
  have hmem : ∀ x ∈ recs (rsAt l 0), x.2.size ≤ 600000000000000 := fun x hx => by
    have h1 := (recsF_mem _ _ _ hx).2.2.1
    have h2 : x.2.size ≤ l.length := by simpa [rsAt] using h1
    omega
  have hrec : records l = if endOf (recs (rsAt l 0)) = l.length then (recs (rsAt l 0), 0) else ([], 20) := by
    unfold records
    rw [show RSt.new l = rsAt l 0 from rfl]
  have hlen : (recs (rsAt l 0)).length ≤ l.length + 1 := by
    have h1 := recsF_len ((rsAt l 0).bytes.length + 1) (rsAt l 0)
    have h2 : (rsAt l 0).bytes.length = l.length := rfl
    unfold recs
    omega
  have HREC := Lib.hid hrec
  have HMEM := Lib.hid hmem
  clear hrec hmem
  generalize recs (rsAt l 0) = L at *
  go_enter Tryz.func31, Tryz.ntmps31
  go_wp2_with fail
  refine HE.out.mono ?_; rintro e w1 ⟨va, vl, rfl, -, hol, hm⟩
  have HL := Lib.hid hol
  have HM := Lib.hid hm
  obtain ⟨Al, cl, rfl⟩ := own_ctor hol
  have HS := Lib.hid (sts_of_flatS hol)
  clear hol hm
  go_wp2_with fail
  go_loopw [6, 7] (fun q i wr => RelRc L w1 q i wr) (fun _ i _ => L.length - (intOf i).toNat)
  case atStart => exact ⟨0, by omega, rfl, by simp [sumS], Mods.refl _ _⟩
  case round =>
    obtain ⟨k, hk, rfl, rfl, hm⟩ := hrel
    have HMM := Lib.hid hm
    have hsk := sum_le L k
    rcases Nat.lt_or_ge k L.length with hlt | hge
    · obtain ⟨x, hxk⟩ : ∃ x, L[k]? = some x := ⟨_, List.getElem?_eq_getElem hlt⟩
      obtain ⟨g, off, rfl, hrg⟩ := Sts.at (HS.out.mods hm) (i := k) (s := x.2) (by rw [List.getElem?_map, hxk]; rfl)
      have HRG := Lib.hid hrg
      have HW := Lib.hid (fun W => rsize_any x.2 W (HMEM.out x (List.mem_of_getElem? hxk)))
      have HTK := Lib.hid (show L.take (k + 1) = L.take k ++ [x] by rw [List.take_add_one, hxk]; rfl)
      have hsk2 := sum_le L (k + 1)
      rw [HTK.out, sumS_snoc] at hsk2
      have s1 : IntKind.i64.wrap ((sumS (L.take k) : Int) + (x.2.size : Int)) = (sumS (L.take k) : Int) + (x.2.size : Int) := IntWalk.i64_in _ (by omega)
      clear hm hrg
      go_wp2_with (first | (refine wpList_load_mid rfl 35 _ rfl g (off + k * 13) rfl (statV x.2).toList _ HRG.out Tryz.underlying35 rfl info90t ?_))
      refine (HW.out _).mono ?_; rintro e w2 ⟨rfl, hm2⟩
      have HR : Hid (RelRc L w1 (.int .i64 ((sumS (L.take k) : Int) + (x.2.size : Int))) (.int .i64 ((k : Int) + 1)) w2) := Lib.hid ⟨k + 1, by omega, rfl, by rw [HTK.out, sumS_snoc]; rfl, HMM.out.trans hm2 (by simp)⟩
      clear hm2
      go_wp2_with fail
      exact ⟨HR.out, by simp only [intOf]; omega⟩
    · obtain rfl : k = L.length := by omega
      rw [List.take_length]
      by_cases he : sumS L = l.length
      · have hb : ((sumS L : Int) != (l.length : Int)) = false := by rw [bne_eq_false_iff_eq]; omega
        have HR : Hid (records l = (L, 0)) := Lib.hid (by rw [HREC.out, if_pos (by omega)])
        go_wp2_with fail
        go_ret2
        unfold RrPost
        rw [HR.out]
        exact ⟨_, rfl, ownsRow_mods HL.out HMM.out (by simp), HM.out.trans HMM.out (by simp)⟩
      · have hb : ((sumS L : Int) != (l.length : Int)) = true := by rw [bne_iff_ne]; omega
        have HR : Hid (records l = ([], 20)) := Lib.hid (by rw [HREC.out, if_neg (by omega)])
        go_wp2_with fail
        go_ret2
        unfold RrPost
        rw [HR.out]
        exact ⟨_, rfl, World.ownsRow_nil _ _ _ _, HM.out.trans HMM.out (by simp)⟩
end Go.Proofs.YtnpokdbpmnkbjaaGreatDoor
