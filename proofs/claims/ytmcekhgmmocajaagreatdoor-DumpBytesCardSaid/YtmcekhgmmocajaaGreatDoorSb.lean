/- dump.Decode, walked: the deferred closure, and what it leaves. | The law's small entries; alike. | The law's same, of two lists that say the same; DumpNumbers. -/
import Derived.Test.YtmcekhgmmocajaaGreatDoorEr
import Derived.Defers
import Derived.Recover
namespace Go.Proofs.YtmcekhgmmocajaaGreatDoor
open Go.RowKit Me

theorem assert52 (w : World) : (Instr.typeAssert (.iface 71 (.agg #[])) 20 71 false).run Tryz.prog w = .ok (.agg #[]) w := by kernel_rfl
set_option maxRecDepth 100000 in
theorem catch_panicking (p q : Addr) (x : Value) (y : Int) (older : List PanicEntry) (w : World) (hc : w.cell? p = some x) (hz : w.frozen? p = false) (hd : w.cell? q = some (.int .i64 y)) (hy : w.frozen? q = false) (hpq : p ≠ q) :
    CallsD Tryz.prog 31 #[.pointer (some p), .pointer (some q)] (.panicking ({ v := .iface 71 (.agg #[]), recovered := false } :: older)) w fun e u' w' =>
      e = .returned (.tuple #[]) ∧ u' = .panicking ({ v := .iface 71 (.agg #[]), recovered := true } :: older) ∧ w' = (w.setCell p (.slice none 0 0)).setCell q (.int .i64 210) := by
  refine callsD_of_wpS Tryz.func31 rfl fun c₀ cs hu => ?_
  apply wpS_seq
  apply wpS_region
  simp [wpOpsS, go_sem, recoverD, hu, Tryz.ntmps31, Exit.thenS]
  rw [show #[Value.pointer (some p), Value.pointer (some q)] ++ ((Array.replicate 6 undef).setIfInBounds 1 (Value.iface 71 (Value.agg #[]))).setIfInBounds 0 (Value.iface 71 (Value.agg #[])) = #[Value.pointer (some p), Value.pointer (some q), Value.iface 71 (Value.agg #[]), Value.iface 71 (Value.agg #[]), undef, undef, undef, undef] from rfl]
  refine wpS_of_wp ?_
  have hd2 : (w.setCell p (.slice none 0 0)).cell? q = some (.int .i64 y) := by rw [World.cell?_setCell_other _ _ _ _ hpq]; exact hd
  have hy2 : (w.setCell p (.slice none 0 0)).frozen? q = false := by simpa using hy
  have hta := assert52 w
  go_wp2_with fail
  cases c₀
  simp_all [bodyPostS, results, Tryz.results31]
set_option maxRecDepth 100000 in
theorem catch_idle (p q : Addr) (w : World) :
    CallsD Tryz.prog 31 #[.pointer (some p), .pointer (some q)] .returning w fun e u' w' => e = .returned (.tuple #[]) ∧ u' = .returning ∧ w' = w := by
  refine callsD_of_wpS Tryz.func31 rfl fun c₀ cs hu => ?_
  apply wpS_seq
  apply wpS_region
  simp [wpOpsS, go_sem, recoverD, hu, Tryz.ntmps31, Exit.thenS]
  rw [show #[Value.pointer (some p), Value.pointer (some q)] ++ ((Array.replicate 6 undef).setIfInBounds 1 Value.nilIface).setIfInBounds 0 Value.nilIface = #[Value.pointer (some p), Value.pointer (some q), Value.nilIface, Value.nilIface, undef, undef, undef, undef] from rfl]
  refine wpS_of_wp ?_
  go_wp2_with fail
  cases c₀
  simp_all [bodyPostS, results, Tryz.results31]
/-- What Decode tells. -/
def decP (b : List UInt8) : List EntP × Nat :=
  match readD b with
  | none => ([], 210)
  | some L => if encP L = (b, 0) then (L, 0) else ([], 210)
def DecPost (w : World) (r : List EntP × Nat) (x : Ending) (w' : World) : Prop :=
  ∃ v, x = .returned (.tuple #[v, .int .i64 (r.2 : Int)]) ∧ EntO w.heap.size w' v r.1 ∧ Mods [] w w'
theorem EntO.set {base : Nat} {w : World} {v : Value} {L : List EntP} (h : EntO base w v L) {p : Addr} {cs : Array Value} {t : TypeId} {fr : Nat × Nat} (hp : w.heap[p.block]? = some (.cells cs t fr)) (h1 : t ≠ 5) (h2 : t ≠ 47) (u : Value) : EntO base (w.setCell p u) v L := by
  have hm : Mods [p.block] w (w.setCell p u) := (Mods.refl _ _).setCell (Or.inl (by simp)) u
  refine h.mods hm (fun k hk cs' fr' hh => ?_) (fun k hk hh => ?_)
  · simp at hk
    subst hk
    rw [hp] at hh
    simp only [Option.some.injEq, Obj.cells.injEq] at hh
    exact h1 hh.2.1
  · simp at hh
    subst hh
    exact h.not hp h2 hk
theorem EntO.base {b B : Nat} {w : World} {v : Value} {L : List EntP} (h : EntO B w v L) (hb : b ≤ B) : EntO b w v L := by
  obtain ⟨V, h1, h2, h3, h4⟩ := h
  exact ⟨V, h1, ownsRow_base h2 hb, fun i e vd he hd => ownsRow_base (h3 i e vd he hd) hb, h4⟩
theorem door_panic {w0 w2 : World} {b0 : Nat} {x : Value} {y : Int} (hx : w2.heap[b0]? = some (.cells #[x] 23 (0, 0))) (hy : w2.heap[b0 + 1]? = some (.cells #[.int .i64 y] 24 (0, 0))) (tm : Array Value)
    (h2 : tm[2]? = some (.pointer (some ⟨b0, 0, none⟩))) (h3 : tm[3]? = some (.pointer (some ⟨b0 + 1, 0, none⟩))) (hm : Mods [] w0 w2) (hb0 : w0.heap.size ≤ b0) :
    Leaves Tryz.prog Tryz.f8 tm (DecPost w0 ([], 210)) [{ target := .fn (.func 31) #[.pointer (some ⟨b0, 0, none⟩), .pointer (some ⟨b0 + 1, 0, none⟩)], args := #[] }] (.panicking [{ v := .iface 71 (.agg #[]), recovered := false }]) w2 := by
  refine leaves_cons (f := 31) (args := #[.pointer (some ⟨b0, 0, none⟩), .pointer (some ⟨b0 + 1, 0, none⟩)]) (by simp) (by simp [go_sem]) ?_
  refine (catch_panicking ⟨b0, 0, none⟩ ⟨b0 + 1, 0, none⟩ x y [] w2 ?_ (frozen_of_row _ _ _ _ _ hx) ?_ (frozen_of_row _ _ _ _ _ hy) (by simp)).mono ?_
  · rw [cell_of_row _ _ _ _ _ _ hx]; rfl
  · rw [cell_of_row _ _ _ _ _ _ hy]; rfl
  rintro e u' w'' ⟨rfl, rfl, rfl⟩
  have hx1 : (w2.setCell ⟨b0, 0, none⟩ (.slice none 0 0)).heap[b0]? = some (.cells #[.slice none 0 0] 23 (0, 0)) := heap_setCell_same _ _ _ _ _ _ hx
  have hy1 : (w2.setCell ⟨b0, 0, none⟩ (.slice none 0 0)).heap[b0 + 1]? = some (.cells #[.int .i64 y] 24 (0, 0)) := (Below.heap_setCell _ _ _ _ (by simp)).trans hy
  have hx2 : ((w2.setCell ⟨b0, 0, none⟩ (.slice none 0 0)).setCell ⟨b0 + 1, 0, none⟩ (.int .i64 210)).heap[b0]? = some (.cells #[.slice none 0 0] 23 (0, 0)) := (Below.heap_setCell _ _ _ _ (by simp)).trans hx1
  have hy2 : ((w2.setCell ⟨b0, 0, none⟩ (.slice none 0 0)).setCell ⟨b0 + 1, 0, none⟩ (.int .i64 210)).heap[b0 + 1]? = some (.cells #[.int .i64 210] 24 (0, 0)) := heap_setCell_same _ _ _ _ _ _ hy1
  have hM : Mods [] w0 ((w2.setCell ⟨b0, 0, none⟩ (.slice none 0 0)).setCell ⟨b0 + 1, 0, none⟩ (.int .i64 210)) := (hm.setCell (Or.inr hb0) _).setCell (Or.inr (by show w0.heap.size ≤ b0 + 1; omega)) _
  generalize (w2.setCell ⟨b0, 0, none⟩ (.slice none 0 0)).setCell ⟨b0 + 1, 0, none⟩ (.int .i64 210) = w3 at *
  have c0 : w3.cell? ⟨b0, 0, none⟩ = some (.slice none 0 0) := by rw [cell_of_row _ _ _ _ _ _ hx2]; rfl
  have c1 : w3.cell? ⟨b0 + 1, 0, none⟩ = some (.int .i64 210) := by rw [cell_of_row _ _ _ _ _ _ hy2]; rfl
  refine ⟨.tuple #[.slice none 0 0, .int .i64 210], ?_, ⟨_, rfl, EntO.nil _ _, hM⟩⟩
  simp [results, Tryz.results8, go_sem, h2, h3, c0, c1]
theorem door_ret {w2 : World} {b0 : Nat} {A : Option Addr} {n c : Nat} {y : Int} {R : Ending → World → Prop} (hx : w2.heap[b0]? = some (.cells #[.slice A n c] 23 (0, 0))) (hy : w2.heap[b0 + 1]? = some (.cells #[.int .i64 y] 24 (0, 0))) (tm : Array Value)
    (h2 : tm[2]? = some (.pointer (some ⟨b0, 0, none⟩))) (h3 : tm[3]? = some (.pointer (some ⟨b0 + 1, 0, none⟩))) (hR : R (.returned (.tuple #[.slice A n c, .int .i64 y])) w2) :
    Leaves Tryz.prog Tryz.f8 tm R [{ target := .fn (.func 31) #[.pointer (some ⟨b0, 0, none⟩), .pointer (some ⟨b0 + 1, 0, none⟩)], args := #[] }] .returning w2 := by
  refine leaves_cons (f := 31) (args := #[.pointer (some ⟨b0, 0, none⟩), .pointer (some ⟨b0 + 1, 0, none⟩)]) (by simp) (by simp [go_sem]) ?_
  refine (catch_idle ⟨b0, 0, none⟩ ⟨b0 + 1, 0, none⟩ w2).mono ?_
  rintro e u' w'' ⟨rfl, rfl, rfl⟩
  have c0 : w''.cell? ⟨b0, 0, none⟩ = some (.slice A n c) := by rw [cell_of_row _ _ _ _ _ _ hx]; rfl
  have c1 : w''.cell? ⟨b0 + 1, 0, none⟩ = some (.int .i64 y) := by rw [cell_of_row _ _ _ _ _ _ hy]; rfl
  refine ⟨.tuple #[.slice A n c, .int .i64 y], ?_, hR⟩
  simp [results, Tryz.results8, go_sem, h2, h3, c0, c1]
set_option maxRecDepth 100000 in
set_option maxHeartbeats 2000000 in
theorem decode_any {w : World} (b : List UInt8) {v : Value} (h : Rd w v (b.map byteV)) (hb : b.length ≤ 100000000) (hT : Tabs w) :
    Calls Tryz.prog 8 #[v] w (DecPost w (decP b)) := by
  have hm2 := ((Mods.refl [] w).alloc (.cells #[.slice none 0 0] 23)).alloc (.cells #[.int .i64 0] 24)
  have H1 := Lib.hid (read_any b (h.mods hm2 (by simp)) hb (hT.mods hm2))
  have HD := Lib.hid (show decP b = match readD b with
    | none => ([], 210)
    | some L => if encP L = (b, 0) then (L, 0) else ([], 210) from rfl)
  have HB0 := Lib.hid ((Go.heap_alloc_old (w.alloc (.cells #[.slice none 0 0] 23)) (.cells #[.int .i64 0] 24) (by simp)).trans (heap_alloc_new w (.cells #[.slice none 0 0] 23)))
  have hb1 := heap_alloc_new (w.alloc (.cells #[.slice none 0 0] 23)) (.cells #[.int .i64 0] 24)
  rw [World.size_alloc] at hb1
  have HB1 := Lib.hid hb1
  have HM2 := Lib.hid hm2
  have HRB := Lib.hid h
  obtain ⟨A, c, rfl, -⟩ := h
  rw [List.length_map] at *
  clear hb1 hm2
  have hmf : ∀ (fn : Fn) (first cap : Array Value) (w : World), (Instr.makeFunc fn first cap).run Tryz.prog w = .ok (.func fn first cap) w := fun _ _ _ _ => rfl
  go_enter_defers Tryz.func8, Tryz.ntmps8
  go_wp2_with fail
  have hz2 : ((w.alloc (.cells #[.slice none 0 0] 23)).alloc (.cells #[.int .i64 0] 24)).heap.size = w.heap.size + 2 := by simp
  generalize (w.alloc (.cells #[.slice none 0 0] 23)).alloc (.cells #[.int .i64 0] 24) = w1 at *
  cases hr : readD b with
  | none =>
    rw [hr] at H1 HD
    refine H1.out.mono ?_
    rintro x w2 ⟨rfl, hm⟩
    rw [HD.out]
    exact door_panic (hm.heap HB0.out (by simp)) (hm.heap HB1.out (by simp)) _ rfl rfl (HM2.out.trans hm (by simp)) (Nat.le_refl _)
  | some L =>
    rw [hr] at H1 HD
    obtain ⟨k1, k2⟩ := readD_of hr
    refine H1.out.mono ?_
    rintro x w2 ⟨v, rfl, he0, hm⟩
    have he : EntO w.heap.size w2 v L := he0.base HM2.out.size
    have HX := Lib.hid (hm.heap HB0.out (by simp))
    have HY := Lib.hid (hm.heap HB1.out (by simp))
    have HM := Lib.hid (HM2.out.trans hm (by simp))
    have k0 := frozen_of_row _ _ 0 _ _ HX.out
    have c0 := cell_of_row _ _ 0 _ _ _ HX.out
    simp only [List.getElem?_toArray, List.getElem?_cons_zero] at c0
    obtain ⟨V, hV, hrow, hdat, -⟩ := id he
    obtain ⟨A2, c2, rfl⟩ := own_ctor hrow
    clear hrow hdat hV hm H1
    have hE3 := he.set (p := ⟨w.heap.size, 0, none⟩) HX.out (by decide) (by decide) (.slice A2 L.length c2)
    have HX3 : Hid ((w2.setCell ⟨w.heap.size, 0, none⟩ (.slice A2 L.length c2)).heap[w.heap.size]? = some (.cells #[.slice A2 L.length c2] 23 (0, 0))) := Lib.hid (heap_setCell_same _ _ _ _ _ _ HX.out)
    have HY3 : Hid ((w2.setCell ⟨w.heap.size, 0, none⟩ (.slice A2 L.length c2)).heap[w.heap.size + 1]? = some (.cells #[.int .i64 0] 24 (0, 0))) := Lib.hid ((Below.heap_setCell _ _ _ _ (by simp)).trans HY.out)
    have hM3 : Mods [] w (w2.setCell ⟨w.heap.size, 0, none⟩ (.slice A2 L.length c2)) := HM.out.setCell (Or.inr (Nat.le_refl _)) _
    have hsm : ∀ e ∈ L, Small e := fun e he => by
      obtain ⟨f1, f2, f3, f4⟩ := k2 e he
      exact ⟨f1, by omega, by omega, by omega⟩
    have HEN := Lib.hid (encode_any L hE3.ents hsm (by omega) (hT.mods hM3))
    have HE3 : Hid (EntO w.heap.size _ _ L) := Lib.hid hE3
    have HM3 := Lib.hid hM3
    clear hE3 hM3 he
    go_wp2_with fail
    generalize w2.setCell ⟨w.heap.size, 0, none⟩ (.slice A2 L.length c2) = w3 at *
    refine HEN.out.mono ?_
    rintro x w4 ⟨v, rfl, ho, hm⟩
    have hcv := conv_rd (Rd.of_own ho)
    have hcv2 := conv_rd (HRB.out.mods (HM3.out.trans hm (by simp)) (by simp))
    have HX4 := Lib.hid (hm.heap HX3.out (by simp))
    have HY4 := Lib.hid (hm.heap HY3.out (by simp))
    have HM4 := Lib.hid (HM3.out.trans hm (by simp))
    have HE4 := Lib.hid (HE3.out.mods0 hm)
    obtain ⟨A4, c4, rfl⟩ := own_ctor ho
    clear ho hm HEN k0 c0
    generalize encP L = r at *
    obtain ⟨rb, re⟩ := r
    simp only at *
    by_cases h0 : re = 0
    · subst h0
      cases hq : rb == b
      · have HF : Hid (decP b = ([], 210)) := Lib.hid (by
          rw [HD.out, if_neg]
          intro e
          cases e
          simp at hq)
        go_wp2_with fail
        rw [HF.out]
        exact door_panic HX4.out HY4.out _ rfl rfl HM4.out (Nat.le_refl _)
      · have HF : Hid (decP b = (L, 0)) := Lib.hid (by
          rw [HD.out, if_pos]
          rw [eq_of_beq hq])
        have k0 := frozen_of_row _ _ 0 _ _ HX4.out
        have c0 := cell_of_row _ _ 0 _ _ _ HX4.out
        have k1' := frozen_of_row _ _ 0 _ _ HY4.out
        have c1 := cell_of_row _ _ 0 _ _ _ HY4.out
        simp only [List.getElem?_toArray, List.getElem?_cons_zero] at c0 c1
        have hx5 : ((w4.setCell ⟨w.heap.size, 0, none⟩ (.slice A2 L.length c2)).setCell ⟨w.heap.size + 1, 0, none⟩ (.int .i64 0)).heap[w.heap.size]? = some (.cells #[.slice A2 L.length c2] 23 (0, 0)) := (Below.heap_setCell _ _ _ _ (by simp)).trans (heap_setCell_same _ _ _ _ _ _ HX4.out)
        have hy5 : ((w4.setCell ⟨w.heap.size, 0, none⟩ (.slice A2 L.length c2)).setCell ⟨w.heap.size + 1, 0, none⟩ (.int .i64 0)).heap[w.heap.size + 1]? = some (.cells #[.int .i64 0] 24 (0, 0)) := heap_setCell_same _ _ _ _ _ _ ((Below.heap_setCell _ _ _ _ (by simp)).trans HY4.out)
        have hE5 := (HE4.out.set (p := ⟨w.heap.size, 0, none⟩) HX4.out (by decide) (by decide) (.slice A2 L.length c2)).set (p := ⟨w.heap.size + 1, 0, none⟩) ((Below.heap_setCell _ _ _ _ (by simp)).trans HY4.out) (by decide) (by decide) (.int .i64 0)
        have hM5 := (HM4.out.setCell (p := ⟨w.heap.size, 0, none⟩) (Or.inr (Nat.le_refl _)) (.slice A2 L.length c2)).setCell (p := ⟨w.heap.size + 1, 0, none⟩) (Or.inr (by show w.heap.size ≤ w.heap.size + 1; omega)) (.int .i64 0)
        have HX5 := Lib.hid hx5
        have HY5 := Lib.hid hy5
        have HE5 := Lib.hid hE5
        have HM5 := Lib.hid hM5
        clear hx5 hy5 hE5 hM5
        go_wp2_with fail
        exact door_ret (y := 0) HX5.out HY5.out _ rfl rfl ⟨_, by rw [HF.out]; rfl, by rw [HF.out]; exact HE5.out, HM5.out⟩
    · have hne : (((re : Int) != 0) = true) := bne_iff_ne.2 (by omega)
      have HF : Hid (decP b = ([], 210)) := Lib.hid (by
        rw [HD.out, if_neg]
        intro e
        cases e
        exact h0 rfl)
      go_wp2_with fail
      rw [HF.out]
      exact door_panic HX4.out HY4.out _ rfl rfl HM4.out (Nat.le_refl _)
end Go.Proofs.YtmcekhgmmocajaaGreatDoor
namespace Go.Proofs.YtmcekhgmmocajaaGreatDoor
open Go.RowKit Me

def smallL : List EntP := [⟨⟨#[46]⟩, 2147484141, 7, ⟨#[103]⟩, []⟩, ⟨⟨#[97]⟩, 420, 8, ⟨#[103]⟩, [120, 121]⟩]
theorem g103 : gidOk ⟨#[103]⟩ = true := by
  have : Tx.good [103] = true := by decide
  simp [gidOk, this, ByteArray.size]
theorem g97 : Tx.good [97] = true := by decide
theorem pc46 : pieces ⟨#[46]⟩ = [⟨#[46]⟩] := by rw [pieces_eq]; rfl
theorem pc97 : pieces ⟨#[97]⟩ = [⟨#[97]⟩] := by rw [pieces_eq]; rfl
theorem sk46 : skipP ⟨#[46]⟩ = true := by simp [skipP, Lib.toList_data]
theorem sk97 : skipP ⟨#[97]⟩ = false := by simp [skipP, Lib.toList_data]
theorem nm97 : nameOk ⟨#[97]⟩ = true := by simp [nameOk, Lib.toList_data, g97, ByteArray.size, Lib.indexByte]
theorem po46 : pathOk ⟨#[46]⟩ = true := by
  simp [pathOk, pc46, fit, sk46, cleanB, kept, reduce, joinP, rootedB, Lib.hasPrefix, List.isPrefixOf, Lib.toList_data]
theorem po97 : pathOk ⟨#[97]⟩ = true := by
  simp [pathOk, pc97, fit, sk97, fineP, nm97, cleanB, kept, reduce, redStep, up2, joinP, joinS, Lib.join, List.intercalate, rootedB, Lib.hasPrefix, List.isPrefixOf, Lib.toList_data, mkB]
theorem small_may : smallL.all mayE = true := by
  simp [smallL, mayE, po46, po97, g103, modeOk, bitsRest, sub1, isDirN, twoN, ByteArray.size]
theorem pp46 : partsP ⟨#[46]⟩ = [] := by simp [partsP, Lib.toList_data]
theorem pp97 : partsP ⟨#[97]⟩ = [⟨#[97]⟩] := by simp [partsP, Lib.toList_data, pc97]
theorem small_ord : ordE smallL = true := by
  simp [ordE, smallL, List.range_succ, ordAt, pp46, pp97, upB, dirsN, isDirN, cmpL]
theorem small_size : sizeL smallL = 38 := by
  simp [sizeL, smallL, EntP.size, ByteArray.size]
theorem small_enc : encP smallL = (fullD smallL, 0) := by
  unfold encP
  rw [if_neg (by rw [small_may]; simp [smallL]), if_neg (by rw [small_ord]; simp), if_neg (by rw [small_size]; omega)]
theorem small_small : ∀ e ∈ smallL, Small e := by
  intro e he
  simp only [smallL, List.mem_cons, List.not_mem_nil, or_false] at he
  rcases he with rfl | rfl
  · exact ⟨⟨by decide, by decide⟩, by simp [ByteArray.size], by simp [ByteArray.size], by simp⟩
  · exact ⟨⟨by decide, by decide⟩, by simp [ByteArray.size], by simp [ByteArray.size], by simp⟩
/-- What is written is read again. -/
theorem dec_enc {L : List EntP} {b : List UInt8} (h : encP L = (b, 0)) (hf : ∀ e ∈ L, Small e) (hl : L.length ≤ 100000000) : decP b = (L, 0) := by
  have h0 := h
  unfold encP at h
  split at h
  · simp at h
  · rename_i h1
    split at h
    · simp at h
    · split at h
      · simp at h
      · simp only [Prod.mk.injEq, and_true] at h
        simp only [not_or] at h1
        have hall : L.all mayE = true := by simpa using h1.2
        have hfine : ∀ e ∈ L, e.Fine := fun e he => may_fine (hf e he).toFits (List.all_eq_true.1 hall e he)
        have hr : readD b = some L := by
          rw [← h]
          exact readD_on L _ hfine (by omega)
        unfold decP
        rw [hr]
        simp only [h0, if_true]
theorem small_any (w : World) : Calls Tryz.prog 7 #[] w fun x w' => ∃ v, x = .returned v ∧ Ents w' v smallL ∧ Mods [] w w' := by
  have kc := fun (w : World) (C : Array Value) (n c : Nat) => Lib.run_convert_bytes_const (P := Tryz.prog) w 22 5 C n c Tryz.underlying22 Tryz.underlying5
  go_enter Tryz.func7, Tryz.ntmps7
  go_wp2_with fail
  go_ret
  have hc := heap_alloc_new (w.alloc (.cells #[.int .u8 120, .int .u8 121] 5 (2, 3))) (.cells #[.string ⟨#[46]⟩, .int .u32 2147484141, .int .u32 7, .string ⟨#[103]⟩, .slice none 0 0, .string ⟨#[97]⟩, .int .u32 420, .int .u32 8, .string ⟨#[103]⟩, .slice (some ⟨w.heap.size, 0, none⟩) 2 2] 47)
  rw [World.size_alloc] at hc
  have hd := Go.heap_alloc_old (w.alloc (.cells #[.int .u8 120, .int .u8 121] 5 (2, 3))) (.cells #[.string ⟨#[46]⟩, .int .u32 2147484141, .int .u32 7, .string ⟨#[103]⟩, .slice none 0 0, .string ⟨#[97]⟩, .int .u32 420, .int .u32 8, .string ⟨#[103]⟩, .slice (some ⟨w.heap.size, 0, none⟩) 2 2] 47) (r := w.heap.size) (by simp)
  rw [heap_alloc_new] at hd
  have hM := ((Mods.refl [] w).alloc (.cells #[.int .u8 120, .int .u8 121] 5 (2, 3))).alloc (.cells #[.string ⟨#[46]⟩, .int .u32 2147484141, .int .u32 7, .string ⟨#[103]⟩, .slice none 0 0, .string ⟨#[97]⟩, .int .u32 420, .int .u32 8, .string ⟨#[103]⟩, .slice (some ⟨w.heap.size, 0, none⟩) 2 2] 47)
  generalize (w.alloc (.cells #[.int .u8 120, .int .u8 121] 5 (2, 3))).alloc (.cells #[.string ⟨#[46]⟩, .int .u32 2147484141, .int .u32 7, .string ⟨#[103]⟩, .slice none 0 0, .string ⟨#[97]⟩, .int .u32 420, .int .u32 8, .string ⟨#[103]⟩, .slice (some ⟨w.heap.size, 0, none⟩) 2 2] 47) = w2 at *
  refine ⟨_, rfl, ⟨_, 2, rfl, Nat.le_refl _, by unfold maxLen; omega, fun i e he => ?_⟩, hM⟩
  have hcell : ∀ j, w2.cell? ⟨w.heap.size + 1, j, none⟩ = _ := fun j => cell_of_row _ _ j _ _ _ hc
  have hdcell : ∀ j, w2.cell? ⟨w.heap.size, j, none⟩ = _ := fun j => cell_of_row _ _ j _ _ _ hd
  rcases i with _ | _ | i
  · simp [smallL] at he
    subst he
    refine ⟨w.heap.size + 1, 0, .slice none 0 0, rfl, fun j u hu => ?_, ⟨none, 0, rfl, Nat.le_refl _, by unfold maxLen; omega, by simp⟩⟩
    rw [hcell]
    rcases j with _ | _ | _ | _ | _ | j <;> simp [entC] at hu ⊢
    all_goals exact hu
  · simp [smallL] at he
    subst he
    refine ⟨w.heap.size + 1, 0, .slice (some ⟨w.heap.size, 0, none⟩) 2 2, rfl, fun j u hu => ?_, ⟨_, 2, rfl, Nat.le_refl _, by unfold maxLen; omega, fun j u hu => ⟨w.heap.size, 0, rfl, ?_⟩⟩⟩
    · rw [hcell]
      rcases j with _ | _ | _ | _ | _ | j <;> simp [entC] at hu ⊢
      all_goals exact hu
    · rw [hdcell]
      rcases j with _ | _ | j <;> simp [byteV] at hu ⊢
      all_goals exact hu
  · simp [smallL] at he
set_option maxRecDepth 100000 in
theorem alike_any (e : EntP) (va vb : Value) (w : World) (ha : Rd w va (e.data.map byteV)) (hb : Rd w vb (e.data.map byteV)) :
    Calls Tryz.prog 19 #[entV e va, entV e vb] w fun x w' => x = .returned (.bool true) ∧ Mods [] w w' := by
  have HA := Lib.hid (fun w' (hw : Mods [] w w') => conv_rd (ha.mods hw (by simp)))
  have HB := Lib.hid (fun w' (hw : Mods [] w w') => conv_rd (hb.mods hw (by simp)))
  obtain ⟨A, c, rfl, -⟩ := ha
  obtain ⟨B, d, rfl, -⟩ := hb
  simp only [List.length_map] at *
  unfold entV
  have hm := ((Mods.refl [] w).alloc (.cells #[.string e.path, .int .u32 (e.mode : Int), .int .u32 (e.mtime : Int), .string e.gid, .slice A e.data.length c] 47)).alloc (.cells #[.string e.path, .int .u32 (e.mode : Int), .int .u32 (e.mtime : Int), .string e.gid, .slice B e.data.length d] 47)
  have k1 := HA.out _ hm
  have k2 := HB.out _ hm
  have HM := Lib.hid hm
  clear hm HA HB
  go_enter Tryz.func19, Tryz.ntmps19
  go_wp2_with fail
  go_ret
  exact ⟨rfl, HM.out⟩
end Go.Proofs.YtmcekhgmmocajaaGreatDoor
namespace Go.Proofs.YtmcekhgmmocajaaGreatDoor
open Go.RowKit Me Go.BigFrame

namespace Me
theorem wpQuiet_load_mid {P : Program} {ops : Array Oper} {C : World → Prop} {Q : Act → Prop} {a : Act} {o : Oper} {rest : List Oper} (hgd : o.guard = none) (ty : TypeId) (x : Operand) (ho : o.op = .load ty x)
    (g off : Nat) (hx : a.eval x = .pointer (some ⟨g, off, none⟩)) (cs : List Value) (d : TypeDesc) (hg : ∀ w', C w' → w'.rangeAt g off cs)
    (hu : P.underlying ty = some d) (hd : d.isRow = true) (hi : (P.info? ty).map (·.size) = some cs.length)
    (h : wpQuiet P ops C Q rest (a.put o.dst (.agg cs.toArray))) : wpQuiet P ops C Q (o :: rest) a := by
  refine wpQuiet_plain hgd ⟨.agg cs.toArray, fun w' hw' => ?_, h⟩
  unfold Oper.quietAt execOp
  simp only [ho, hx, Instr.loadAt, Instr.sureAddr, Sem.run_bind, Sem.run_pure, Result.andThen_ok, run_loadVar_mid w' g off ty cs d (hg w' hw') hu hd hi]
  exact ⟨rfl, rfl⟩
end Me
def RelSm (w : World) (L : List EntP) (i : Value) (wr : World) : Prop := ∃ k : Nat, k ≤ L.length ∧ i = .int .i64 k ∧ Mods [] w wr
set_option maxRecDepth 100000 in
set_option maxHeartbeats 2000000 in
theorem same_any {w : World} (L : List EntP) {v u : Value} (h1 : Ents w v L) (h2 : Ents w u L) :
    Calls Tryz.prog 9 #[v, u] w fun x w' => x = .returned (.bool true) ∧ Mods [] w w' := by
  have H1 := Lib.hid h1
  have H2 := Lib.hid h2
  obtain ⟨A, c, rfl, a1, a2, -⟩ := h1
  obtain ⟨B, d, rfl, -⟩ := h2
  have hLm : L.length ≤ 9223372036854775807 := by unfold maxLen at a2; omega
  clear a1 a2
  go_enter Tryz.func9, Tryz.ntmps9
  go_wp2_with fail
  go_loopw [5] (fun i wr => RelSm w L i wr) (fun i _ => L.length - (intOf i).toNat)
  case atStart => exact ⟨0, by omega, rfl, Mods.refl _ _⟩
  case round =>
    obtain ⟨k, hk, rfl, hm⟩ := hrel
    have HM := Lib.hid hm
    rcases Nat.lt_or_ge k L.length with hlt | hge
    · obtain ⟨e, hs⟩ : ∃ e, L[k]? = some e := ⟨_, List.getElem?_eq_getElem hlt⟩
      obtain ⟨g, off, va, rfl, hrg, hrd⟩ := (H1.out.mods hm).at hs
      obtain ⟨g2, off2, vb, rfl, hrg2, hrd2⟩ := (H2.out.mods hm).at hs
      have HA := Lib.hid (fun w' (hw : InC wr w') => alike_any e va vb w' (hrd.mods hw (by simp)) (hrd2.mods hw (by simp)))
      rw [entV_agg, entV_agg] at HA
      have HR1 := Lib.hid (fun w' (hw : InC wr w') => range_mods hrg hw (by simp))
      have HR2 := Lib.hid (fun w' (hw : InC wr w') => range_mods hrg2 hw (by simp))
      clear hrg hrd hrg2 hrd2 hs hm
      go_wp2_with fail
      refine wp_region_quiet (C := InC wr) (by kernel_rfl) (by kernel_rfl) (InC.drew wr) ?_
      dsimp only [List.toList_toArray]
      iterate 3 (go_big_quiet_want; go_big_quiet_op; first | go_big_quiet_on | (apply Exists.intro; refine ⟨fun w' hw' => ?_, ?_⟩; (first | rfl | exact ⟨rfl, rfl⟩); go_big_quiet_on))
      refine wpQuiet_load_mid rfl 47 _ rfl g (off + k * 5) rfl (entC e va) _ HR1.out Tryz.underlying47 rfl info38t ?_
      refine wpQuiet_step (fun K hK => ?_)
      go_simp
      refine ⟨_, fun _ _ => rfl, hK _ ?_⟩
      clear hK K
      iterate 2 (go_big_quiet_want; go_big_quiet_op; first | go_big_quiet_on | (apply Exists.intro; refine ⟨fun w' hw' => ?_, ?_⟩; (first | rfl | exact ⟨rfl, rfl⟩); go_big_quiet_on))
      refine wpQuiet_load_mid rfl 47 _ rfl g2 (off2 + k * 5) rfl (entC e vb) _ HR2.out Tryz.underlying47 rfl info38t ?_
      refine wpQuiet_step (fun K hK => ?_)
      go_simp
      refine ⟨_, fun w' hw' => (HA.out w' hw').mono fun _ _ hh => ⟨hh.1, Mods.trans hw' hh.2 (by simp)⟩, hK _ ?_⟩
      clear hK K
      refine wpQuiet_step (fun K hK => ?_)
      go_simp
      refine ⟨_, fun _ _ => rfl, hK _ ?_⟩
      clear hK K
      refine wpQuiet_nil ?_
      intro w5 hw5
      have HM5 := Lib.hid (HM.out.trans hw5 (by simp))
      clear hw5
      go_wp2_with fail
      exact ⟨⟨k + 1, by omega, rfl, HM5.out⟩, by simp only [intOf]; omega⟩
    · obtain rfl : k = L.length := by omega
      clear hm
      go_wp2_with fail
      go_ret
      exact ⟨rfl, HM.out⟩
end Go.Proofs.YtmcekhgmmocajaaGreatDoor
