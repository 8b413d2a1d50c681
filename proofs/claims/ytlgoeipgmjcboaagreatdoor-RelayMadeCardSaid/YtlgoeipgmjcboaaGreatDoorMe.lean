/- msg.Encode's length, msg.Size. -/
import Derived.Test.YtlgoeipgmjcboaaGreatDoorMq
import Derived.Test.YtlgoeipgmjcboaaGreatDoorMr
namespace Go.Proofs.YtlgoeipgmjcboaaGreatDoor
open Go.RowKit Me

theorem kind_fields : (kindTab.all fun r => decide (r.2.2.1.length ≤ 4) && r.2.2.1.all fun n => decide (n < 20)) = true := by decide +kernel
theorem fields_lt (k : Nat) (hk : k < 256) (l : List Nat) (h : fieldsOf k = some l) : (∀ n ∈ l, n < 20) ∧ l.length ≤ 4 := by
  rw [kind_find k hk] at h
  cases e : kindTab.find? (fun r => decide (r.1 = k)) with
  | none => rw [e] at h; cases h
  | some r =>
    rw [e] at h
    simp only [Option.map_some, Option.some.injEq] at h
    subst h
    have := List.all_eq_true.1 kind_fields r (List.mem_of_find?_eq_some e)
    simp only [Bool.and_eq_true, decide_eq_true_eq, List.all_eq_true] at this
    exact ⟨this.2, this.1⟩
theorem fd1 (x0 : Value) (k1 : Nat) (c1 : Array Value) (x2 x3 x4 x5 x6 : Value) (w : World) : (Instr.field 160 (.agg #[x0, .func (.func k1) #[] c1, x2, x3, x4, x5, x6]) 1).run Tryz.prog w = .ok (.func (.func k1) #[] c1) w := by kernel_rfl
theorem fd2 (x0 : Value) (k1 : Nat) (c1 : Array Value) (x2 x3 x4 x5 x6 : Value) (w : World) : (Instr.field 160 (.agg #[x0, x2, .func (.func k1) #[] c1, x3, x4, x5, x6]) 2).run Tryz.prog w = .ok (.func (.func k1) #[] c1) w := by kernel_rfl
theorem rd_at {w : World} {A : Option Addr} {n c : Nat} {xs : List Value} (h : Rd w (.slice A n c) xs) {j : Nat} {u : Value} (hj : xs[j]? = some u) : ∃ g off, A = some ⟨g, off, none⟩ ∧ w.cell? ⟨g, off + j, none⟩ = some u := by
  obtain ⟨A', c', e, -, -, h3⟩ := h
  obtain rfl := (Value.slice.inj e).1
  exact h3 j u hj
theorem OwnW.new {w w' : World} {a l : Nat} (h : IsW 195 w' w.heap.size (WSt.new l) (.slice none 0 0) (.slice none 0 0)) (hm : Mods [] w w') (ha : a = w.heap.size) : OwnW 195 w w' a (WSt.new l) := by
  subst ha
  exact ⟨hm, _, _, h, fun k hk => by rcases mem_foot.1 hk with rfl | hk | hk <;> simp_all [Value.ownBlock]⟩
set_option maxRecDepth 20000 in
set_option maxHeartbeats 2000000 in
theorem encode_any (m : MsgP) (hs : SmallM m) {vn vq vd : Value} (w : World) (hr : MsgR w m vn vq vd) (hT : Lib.Utf8Tabs 4 5 w) :
    Calls Tryz.prog 55 #[.agg (msgC m vn vq vd).toArray] w fun e w' => ∃ A c, e = .returned (.tuple #[.slice A m.refused.2 c, .int .i64 (m.refused.1 : Int)]) ∧ Mods [] w w' := by
  have hfd1 := fd1
  have hfd2 := fd2
  have HS := Lib.hid hs
  have hM : IsM (w.alloc (.cells (msgC m vn vq vd).toArray 47)) w.heap.size m vn vq vd := ⟨heap_alloc_new w _, hr.mods ((Mods.refl [] w).alloc _)⟩
  have HM := Lib.hid hM
  have HT := Lib.hid (tabs_mods ((Mods.refl [] w).alloc (.cells (msgC m vn vq vd).toArray 47)) hT)
  have HM0 := Lib.hid ((Mods.refl [] w).alloc (.cells (msgC m vn vq vd).toArray 47))
  have c0 : (w.alloc (.cells (msgC m vn vq vd).toArray 47)).cell? ⟨w.heap.size, 0, none⟩ = some (.int .u8 (m.kind : Int)) := hM.cell 0
  have c1 : (w.alloc (.cells (msgC m vn vq vd).toArray 47)).cell? ⟨w.heap.size, 1, none⟩ = some (.int .u16 (m.tag : Int)) := hM.cell 1
  clear hM hs hr hT
  generalize msgC m vn vq vd = mc at *
  go_enter Tryz.func55, Tryz.ntmps55
  go_wp2_with fail
  refine (rowOf_any m.kind HS.out.kind _).mono ?_; rintro e w1 ⟨kv, nm, vA, vn', vc, rfl, hm, hf⟩
  have HM1 := Lib.hid (HM.out.mods hm)
  have HT1 := Lib.hid (tabs_mods hm HT.out)
  have HMM1 := Lib.hid (HM0.out.trans hm (by simp))
  clear HM HT HM0 c0 c1 hm
  generalize w.heap.size = b at *
  cases hfo : fieldsOf m.kind with
  | none =>
    have HE : Hid (m.refused = (32, 0)) := Lib.hid (by unfold MsgP.refused; rw [hfo])
    clear hf hfo
    go_wp2_with fail
    go_ret2
    exact ⟨none, 0, by rw [HE.out]; rfl, HMM1.out.alloc _⟩
  | some l =>
    obtain ⟨hrd, -⟩ := hf l hfo
    obtain ⟨hlt, hll⟩ := fields_lt _ HS.out.kind l hfo
    have HLT := Lib.hid hlt
    obtain rfl : vn' = l.length := by
      obtain ⟨A', c', e, -⟩ := hrd
      have := (Value.slice.inj e).2.1
      simpa using this
    have hm2 := (Mods.refl [] w1).alloc (.cells #[.int .u8 kv, .string nm, .slice vA l.length vc] 143)
    have hq := heap_alloc_new w1 (.cells #[.int .u8 kv, .string nm, .slice vA l.length vc] 143)
    have HRD := Lib.hid (hrd.mods hm2 (by simp))
    have HM2 := Lib.hid (HM1.out.mods hm2)
    have HT2 := Lib.hid (tabs_mods hm2 HT1.out)
    have HMM2 := Lib.hid (HMM1.out.trans hm2 (by simp))
    have HFO := Lib.hid hfo
    have HQ := Lib.hid hq
    clear hf hfo hm2 hrd HM1 HT1 HMM1 hlt hq
    go_wp2_with fail
    generalize (w1.alloc (.cells #[.int .u8 kv, .string nm, .slice vA l.length vc] 143)) = wX at *
    generalize w1.heap.size = q at *
    go_loopw [25] (fun i wr => ∃ k : Nat, k ≤ l.length ∧ i = .int .i64 k ∧ (l.take k).all m.goodF = true ∧ Mods [] wX wr) (fun i _ => l.length - (intOf i).toNat)
    case atStart => exact ⟨0, by omega, rfl, by simp, Mods.refl _ _⟩
    case round =>
      obtain ⟨k, hk, rfl, hg, hm⟩ := hrel
      have HMR := Lib.hid hm
      have HG := Lib.hid hg
      rcases Nat.lt_or_ge k l.length with hlt | hge
      · obtain ⟨n, hs⟩ : ∃ n, l[k]? = some n := ⟨_, List.getElem?_eq_getElem hlt⟩
        obtain ⟨g, off, rfl, hc⟩ := rd_at (HRD.out.mods hm (by simp)) (j := k) (u := u8V n) (by rw [List.getElem?_map, hs]; rfl)
        have HF := Lib.hid (fieldOf_any m n (HLT.out n (List.mem_of_getElem? hs)) wr)
        have HTK : Hid (l.take (k + 1) = l.take k ++ [n]) := Lib.hid (by rw [List.take_add_one, hs]; rfl)
        have HMEM := Lib.hid (List.mem_of_getElem? hs)
        unfold u8V at hc
        clear hm hg hs
        go_wp2_with fail
        refine HF.out.mono ?_; rintro e w2 ⟨fv, cs, rfl, hm2, hfv, hcs⟩
        obtain ⟨word, k1, c1, k2, c2, k3, c3, k4, c4, k5, c5, k6, c6, rfl, hw⟩ := hfv
        obtain ⟨⟨e9, hgood⟩, -⟩ := hw w2 hcs
        have HM3 := Lib.hid (HMR.out.trans hm2 (by simp))
        have HGD := Lib.hid (hgood b vn vq vd (HM2.out.mods HM3.out) HS.out (tabs_mods HM3.out HT2.out))
        clear hw hcs hm2 hgood HF
        go_wp2_with fail
        refine HGD.out.mono ?_; rintro e w3 ⟨rfl, hm3⟩
        have HM4 := Lib.hid (HM3.out.trans hm3 (by simp))
        clear hm3 HGD
        cases hgn : m.goodF n
        · have HE : Hid (m.refused = (30, 0)) := Lib.hid (by
            unfold MsgP.refused
            rw [HFO.out]
            simp only
            rw [if_pos (by rw [List.all_eq_false]; exact ⟨n, HMEM.out, by rw [hgn]; simp⟩)])
          clear hgn
          go_wp2_with fail
          go_ret2
          exact ⟨none, 0, by rw [HE.out]; rfl, HMM2.out.trans HM4.out (by simp)⟩
        · have HGN := Lib.hid hgn
          clear hgn
          go_wp2_with fail
          exact ⟨⟨k + 1, by omega, by simp, by rw [HTK.out, List.all_append, HG.out]; simp [HGN.out], HM4.out⟩, by simp [intOf]; omega⟩
      · rename World => wA
        obtain rfl : k = l.length := by omega
        rw [List.take_length] at hg
        have HGA := Lib.hid hg
        clear hg hm HG
        go_wp2_with fail
        refine (newWriter_ok 65536 wA (by omega)).mono ?_; rintro e w3 ⟨rfl, hi, hm3⟩
        have HW3 := Lib.hid (OwnW.new hi hm3 rfl)
        have HTR := Lib.hid (tabs_mods HMR.out HT2.out)
        have HMr := Lib.hid (HM2.out.mods HMR.out)
        have HRDr := Lib.hid (HRD.out.mods HMR.out (by simp))
        have HQr := Lib.hid (HMR.out.heap HQ.out (by simp))
        have HMMr := Lib.hid (HMM2.out.trans HMR.out (by simp))
        clear hi hm3 HMR HT2 HM2 HRD HQ HMM2
        generalize wA.heap.size = a at *
        go_wp2_with fail
        refine (HW3.out.call fun vb vo hw => u32_any hw 0 (by omega)).mono ?_; rintro e w4 ⟨rfl, hw⟩
        have HW4 := Lib.hid hw
        have d0 : w4.cell? ⟨b, 0, none⟩ = some (.int .u8 (m.kind : Int)) := (HMr.out.mods hw.mods).cell 0
        clear hw HW3
        go_wp2_with fail
        refine (HW4.out.call fun vb vo hw => u8_any hw m.kind (by have := HS.out.kind; omega)).mono ?_; rintro e w5 ⟨rfl, hw⟩
        have HW5 := Lib.hid hw
        have d1 : w5.cell? ⟨b, 1, none⟩ = some (.int .u16 (m.tag : Int)) := (HMr.out.mods hw.mods).cell 1
        clear hw HW4 d0
        go_wp2_with fail
        refine (HW5.out.call fun vb vo hw => u16_any hw m.tag (by have := HS.out.tag; omega)).mono ?_; rintro e w6 ⟨rfl, hw⟩
        have HW6 := Lib.hid hw
        have d2 : w6.cell? ⟨q, 2, none⟩ = some (.slice vA l.length vc) := by rw [cell_of_row _ _ _ _ _ _ (hw.mods.heap HQr.out (by simp))]; rfl
        clear hw HW5 d1
        go_wp2_with fail
        go_loopw [55] (fun i wr => ∃ k : Nat, k ≤ l.length ∧ i = .int .i64 k ∧ OwnW 195 wA wr a ((l.take k).foldl (fun S n => m.putF n S) m.head)) (fun i _ => l.length - (intOf i).toNat)
        case atStart => exact ⟨0, by omega, rfl, HW6.out⟩
        case round =>
          obtain ⟨k, hk, rfl, hw⟩ := hrel
          have HR := Lib.hid hw
          rcases Nat.lt_or_ge k l.length with hlt | hge
          · obtain ⟨n, hs⟩ : ∃ n, l[k]? = some n := ⟨_, List.getElem?_eq_getElem hlt⟩
            obtain ⟨g, off, rfl, hc⟩ := rd_at (HRDr.out.mods hw.mods (by simp)) (j := k) (u := u8V n) (by rw [List.getElem?_map, hs]; rfl)
            have HF := Lib.hid (fieldOf_any m n (HLT.out n (List.mem_of_getElem? hs)) wr)
            have HTK : Hid (l.take (k + 1) = l.take k ++ [n]) := Lib.hid (by rw [List.take_add_one, hs]; rfl)
            have HGN := Lib.hid (List.all_eq_true.1 HGA.out n (List.mem_of_getElem? hs))
            unfold u8V at hc
            clear hw hs
            go_wp2_with fail
            refine HF.out.mono ?_; rintro e w8 ⟨fv, cs, rfl, hm2, hfv, hcs⟩
            obtain ⟨word, k1, c1, k2, c2, k3, c3, k4, c4, k5, c5, k6, c6, rfl, hw⟩ := hfv
            obtain ⟨-, e9, hput⟩ := hw w8 hcs
            have HPT := Lib.hid (hput wA a _ b vn vq vd HMr.out HS.out HGN.out HTR.out (HR.out.still hm2))
            clear hw hcs hm2 hput HF
            go_wp2_with fail
            refine HPT.out.mono ?_; rintro e w9 ⟨rfl, hw9⟩
            have HW9 := Lib.hid hw9
            clear hw9 HPT
            go_wp2_with fail
            exact ⟨⟨k + 1, by omega, by simp, by rw [HTK.out, List.foldl_append]; exact HW9.out⟩, by simp [intOf]; omega⟩
          · obtain rfl : k = l.length := by omega
            rw [List.take_length] at hw
            have HWE : Hid (OwnW 195 wA wr a (m.frame l)) := Lib.hid hw
            clear hw HR HW6 d2
            obtain ⟨hm7, vb, vo, h7, hk7⟩ := HWE.out
            have HD := Lib.hid (done_any h7)
            have HM7 := Lib.hid (HMMr.out.trans hm7 (by simp))
            clear hm7 h7 hk7
            go_wp2_with fail
            refine HD.out.mono ?_; rintro e w8 ⟨v, rfl, ho, hm8⟩
            have HO := Lib.hid ho
            have HM8 := Lib.hid hm8
            clear hm8 HD
            rcases frame_done m l HGA.out with ⟨hbig, herr⟩ | ⟨hfit, herr, hop, hlen⟩
            · have hdn : (m.frame l).done.2 = (m.frame l).err := by unfold WSt.done; rw [if_pos herr]
              have hd1 : (m.frame l).done.1 = [] := by unfold WSt.done; rw [if_pos herr]
              have HE : Hid (m.refused = (31, 0)) := Lib.hid (by
                unfold MsgP.refused
                rw [HFO.out]
                simp only
                rw [if_neg (by rw [HGA.out]; simp), if_pos hbig])
              rw [hdn]
              rw [hd1] at ho
              obtain ⟨A, c, rfl, -⟩ := ownsRow_slice ho
              have hb8 := HWE.out.2
              have herr' : ¬ (((m.frame l).err : Int) = 0) := by omega
              generalize (m.frame l).err = er at *
              clear ho hdn hd1 hb8
              go_wp2_with fail
              go_ret2
              exact ⟨none, 0, by rw [HE.out]; rfl, HM7.out.trans HM8.out (by simp)⟩
            · have hdn : (m.frame l).done = ((m.frame l).bytes, 0) := by unfold WSt.done; rw [if_neg (by omega), if_neg (by simpa using hop)]
              have HE : Hid (m.refused = (0, (m.frame l).bytes.length)) := Lib.hid (by
                unfold MsgP.refused
                rw [HFO.out]
                simp only
                rw [if_neg (by rw [HGA.out]; simp), if_neg (by omega), hlen])
              rw [hdn] at ho ⊢
              simp only at ho ⊢
              have HMW8 := Lib.hid (HM7.out.trans HM8.out (by simp))
              have h7 : 7 ≤ (m.frame l).bytes.length := by omega
              have hmx : (m.frame l).bytes.length ≤ 65536 := by omega
              have hbase := HM7.out.size
              generalize (m.frame l).bytes = bs at *
              clear hlen hfit hop hdn HO herr HWE HM7
              rcases ho.2 with ⟨-, h0⟩ | ⟨g, cap, cur, rfl, hb, hg, hn, hc, hcs, -⟩
              · omega
              have HG := Lib.hid hg
              have HB : Hid (w.heap.size ≤ g) := Lib.hid (by omega)
              clear ho hg hb HM8 hbase
              generalize bs.length = N at *
              go_wp2_with fail
              go_loopw [72] (fun i wz => ∃ k : Nat, k ≤ 4 ∧ i = .int .i64 k ∧ Mods [] w wz ∧ ∃ cu : Array Value, wz.heap[g]? = some (.cells cu 5 (0, 0)) ∧ N ≤ cu.size) (fun i _ => 4 - (intOf i).toNat)
              case atStart => exact ⟨0, by omega, rfl, HMW8.out, cur, HG.out, by omega⟩
              case round =>
                obtain ⟨k, hk, rfl, hm, cu, hcu, hsz⟩ := hrel
                have HMz := Lib.hid hm
                have HCU := Lib.hid hcu
                rcases Nat.lt_or_ge k 4 with hlt | hge
                · obtain ⟨u, hu⟩ : ∃ u, cu[k]? = some u := ⟨_, Array.getElem?_eq_getElem (by omega)⟩
                  have d0 : wr.cell? ⟨g, k, none⟩ = some u := by rw [cell_of_row _ _ _ _ _ _ hcu]; exact hu
                  have f0 : wr.frozen? ⟨g, k, none⟩ = false := frozen_of_row _ _ _ _ _ hcu
                  clear hm hcu hu
                  have hk4 : k = 0 ∨ k = 1 ∨ k = 2 ∨ k = 3 := by omega
                  rcases hk4 with rfl | rfl | rfl | rfl
                  · go_wp2_with fail
                    exact ⟨⟨1, by omega, rfl, HMz.out.setCell (Or.inr HB.out) _, _, heap_setCell_same _ _ _ _ _ _ HCU.out, by simpa using hsz⟩, by simp [intOf]⟩
                  · go_wp2_with fail
                    exact ⟨⟨2, by omega, rfl, HMz.out.setCell (Or.inr HB.out) _, _, heap_setCell_same _ _ _ _ _ _ HCU.out, by simpa using hsz⟩, by simp [intOf]⟩
                  · go_wp2_with fail
                    exact ⟨⟨3, by omega, rfl, HMz.out.setCell (Or.inr HB.out) _, _, heap_setCell_same _ _ _ _ _ _ HCU.out, by simpa using hsz⟩, by simp [intOf]⟩
                  · go_wp2_with fail
                    exact ⟨⟨4, by omega, rfl, HMz.out.setCell (Or.inr HB.out) _, _, heap_setCell_same _ _ _ _ _ _ HCU.out, by simpa using hsz⟩, by simp [intOf]⟩
                · obtain rfl : k = 4 := by omega
                  clear hm hcu
                  go_wp2_with fail
                  go_ret2
                  exact ⟨_, _, by rw [HE.out]; rfl, HMz.out⟩
theorem info47 (m : MsgP) (vn vq vd : Value) : (Tryz.prog.info? 47).map (·.size) = some (msgC m vn vq vd).toArray.size := by kernel_rfl
/-- msg.Size. -/
theorem size_any (m : MsgP) (hs : SmallM m) {vn vq vd : Value} (w : World) (hr : MsgR w m vn vq vd) (hT : Lib.Utf8Tabs 4 5 w) :
    Calls Tryz.prog 28 #[.agg (msgC m vn vq vd).toArray] w fun e w' => e = .returned (.int .i64 (m.size : Int)) ∧ Mods [] w w' := by
  have hm0 := (Mods.refl [] w).alloc (.cells (msgC m vn vq vd).toArray 47)
  have HE := Lib.hid (encode_any m hs (w.alloc (.cells (msgC m vn vq vd).toArray 47)) (hr.mods hm0) (tabs_mods hm0 hT))
  have HM0 := Lib.hid hm0
  clear hr hT hm0
  have HR := Lib.hid (heap_alloc_new w (.cells (msgC m vn vq vd).toArray 47))
  go_enter Tryz.func28, Tryz.ntmps28
  go_wp2_with (refine wpList_load_row rfl 47 _ rfl w.heap.size rfl 47 (msgC m vn vq vd).toArray (0, 0) _ HR.out Tryz.underlying47 rfl (info47 m vn vq vd) ?_)
  refine HE.out.mono ?_; rintro e w1 ⟨A, c, rfl, hm⟩
  have HM1 := Lib.hid (HM0.out.trans hm (by simp))
  clear hm HE
  go_wp2_with fail
  go_ret
  exact ⟨rfl, HM1.out⟩
end Go.Proofs.YtlgoeipgmjcboaaGreatDoor
