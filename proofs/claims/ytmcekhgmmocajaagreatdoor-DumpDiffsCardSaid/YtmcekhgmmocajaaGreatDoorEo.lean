/- dump.Encode, walked. -/
import Derived.Test.YtmcekhgmmocajaaGreatDoorOd
import Derived.Test.YtmcekhgmmocajaaGreatDoorRw
import Derived.Test.YtmcekhgmmocajaaGreatDoorAu
import Derived.Test.YtmcekhgmmocajaaGreatDoorMf
import Derived.Lib.SlBytesConst
import Derived.Lib.BufferRead
namespace Go.Proofs.YtmcekhgmmocajaaGreatDoor
open Go.RowKit Me

theorem OwnW.call {w0 w : World} {a : Nat} {S S' : WSt} (h : OwnW 88 w0 w a S) {f : FuncId} {args : Array Value}
    (hc : ∀ vb vo, IsW 88 w a S vb vo → Calls Tryz.prog f args w fun e w' => e = .returned (.tuple #[]) ∧ WPost 88 w a vb vo S' w') :
    Calls Tryz.prog f args w fun e w' => e = .returned (.tuple #[]) ∧ OwnW 88 w0 w' a S' := by
  obtain ⟨h0, vb, vo, h1, h2⟩ := h
  exact (hc vb vo h1).mono fun e w' hh => ⟨hh.1, OwnW.next h0 h2 hh.2⟩
theorem OwnW.raw {w0 w : World} {a : Nat} {S : WSt} (h : OwnW 88 w0 w a S) (bs : List UInt8) {vx : Value} (hx : Rd w vx (bs.map byteV)) :
    Calls Tryz.prog 25 #[.pointer (some ⟨a, 0, none⟩), vx] w fun e w' => e = .returned (.tuple #[]) ∧ OwnW 88 w0 w' a (S.put bs) := h.call fun _ _ hi => raw_any hi bs hx
theorem OwnW.u32 {w0 w : World} {a : Nat} {S : WSt} (h : OwnW 88 w0 w a S) (n : Nat) (hn : n < 4294967296) :
    Calls Tryz.prog 26 #[.pointer (some ⟨a, 0, none⟩), .int .u32 (n : Int)] w fun e w' => e = .returned (.tuple #[]) ∧ OwnW 88 w0 w' a (S.put (le n 4)) := h.call fun _ _ hi => u32_any hi n hn
theorem OwnW.u64 {w0 w : World} {a : Nat} {S : WSt} (h : OwnW 88 w0 w a S) (n : Nat) (hn : n < 18446744073709551616) :
    Calls Tryz.prog 29 #[.pointer (some ⟨a, 0, none⟩), .int .u64 (n : Int)] w fun e w' => e = .returned (.tuple #[]) ∧ OwnW 88 w0 w' a (S.put (le n 8)) := h.call fun _ _ hi => u64_any hi n (by rw [IntKind.wrap_u64]; omega)
theorem OwnW.text {w0 w : World} {a : Nat} {S : WSt} (h : OwnW 88 w0 w a S) (s : ByteArray) (hs : s.size ≤ maxLen) (hT : Tabs w) :
    Calls Tryz.prog 27 #[.pointer (some ⟨a, 0, none⟩), .string s] w fun e w' => e = .returned (.tuple #[]) ∧ OwnW 88 w0 w' a (S.text s.data.toList) := h.call fun _ _ hi => text_any hi s hs hT.u
/-- A writer of one's own, beside a block that stays. -/
def OwnX (w0 w : World) (a : Nat) (S : WSt) (bx : Nat) (o : Obj) : Prop := Mods [] w0 w ∧ w.heap[bx]? = some o ∧ ∃ vb vo, IsW 88 w a S vb vo ∧ ∀ k ∈ foot a vb vo, w0.heap.size ≤ k ∧ k ≠ bx
theorem OwnX.call {w0 w : World} {a bx : Nat} {S S' : WSt} {o : Obj} (h : OwnX w0 w a S bx o) {f : FuncId} {args : Array Value}
    (hc : ∀ vb vo, IsW 88 w a S vb vo → Calls Tryz.prog f args w fun e w' => e = .returned (.tuple #[]) ∧ WPost 88 w a vb vo S' w') :
    Calls Tryz.prog f args w fun e w' => e = .returned (.tuple #[]) ∧ OwnX w0 w' a S' bx o := by
  obtain ⟨h0, hb, vb, vo, h1, h2⟩ := h
  refine (hc vb vo h1).mono fun e w' hh => ⟨hh.1, ?_⟩
  obtain ⟨vb', vo', k1, k2, k3⟩ := hh.2
  refine ⟨h0.trans k2 (fun b hb => Or.inr (h2 b hb).1), k2.heap hb (fun hm => (h2 bx hm).2 rfl), vb', vo', k1, fun k hk => ?_⟩
  rcases k3 k hk with h | h
  · exact h2 k h
  · have := (Array.getElem?_eq_some_iff.1 hb).1
    exact ⟨Nat.le_trans h0.size h, by omega⟩
theorem OwnX.raw {w0 w : World} {a bx : Nat} {S : WSt} {o : Obj} (h : OwnX w0 w a S bx o) (bs : List UInt8) {vx : Value} (hx : Rd w vx (bs.map byteV)) :
    Calls Tryz.prog 25 #[.pointer (some ⟨a, 0, none⟩), vx] w fun e w' => e = .returned (.tuple #[]) ∧ OwnX w0 w' a (S.put bs) bx o := h.call fun _ _ hi => raw_any hi bs hx
theorem OwnX.u32 {w0 w : World} {a bx : Nat} {S : WSt} {o : Obj} (h : OwnX w0 w a S bx o) (n : Nat) (hn : n < 4294967296) :
    Calls Tryz.prog 26 #[.pointer (some ⟨a, 0, none⟩), .int .u32 (n : Int)] w fun e w' => e = .returned (.tuple #[]) ∧ OwnX w0 w' a (S.put (le n 4)) bx o := h.call fun _ _ hi => u32_any hi n hn
theorem OwnX.text {w0 w : World} {a bx : Nat} {S : WSt} {o : Obj} (h : OwnX w0 w a S bx o) (s : ByteArray) (hs : s.size ≤ maxLen) (hT : Tabs w) :
    Calls Tryz.prog 27 #[.pointer (some ⟨a, 0, none⟩), .string s] w fun e w' => e = .returned (.tuple #[]) ∧ OwnX w0 w' a (S.text s.data.toList) bx o := h.call fun _ _ hi => text_any hi s hs hT.u
theorem foot_lt {w : World} {a : Nat} {S : WSt} {vb vo : Value} (h : IsW 88 w a S vb vo) : ∀ k ∈ foot a vb vo, k < w.heap.size := by
  intro k hk
  rcases mem_foot.1 hk with rfl | hk | hk
  · exact (Array.getElem?_eq_some_iff.1 h.cells).1
  · exact ownsRow_lt h.b k hk
  · exact ownsRow_lt h.o k hk
theorem OwnW.box {w0 w : World} {a : Nat} {S : WSt} (h : OwnW 88 w0 w a S) (cs : Array Value) (t : TypeId) : OwnX w0 (w.alloc (.cells cs t)) a S w.heap.size (.cells cs t) := by
  have hm := (Mods.refl [] w).alloc (.cells cs t)
  obtain ⟨h0, vb, vo, h1, h2⟩ := h
  exact ⟨h0.trans hm (by simp), heap_alloc_new w _, vb, vo, h1.mods hm (by simp), fun k hk => ⟨h2 k hk, by have := foot_lt h1 k hk; omega⟩⟩
theorem OwnX.toW {w0 w : World} {a bx : Nat} {S : WSt} {o : Obj} (h : OwnX w0 w a S bx o) : OwnW 88 w0 w a S := by
  obtain ⟨h0, _, vb, vo, h1, h2⟩ := h
  exact ⟨h0, vb, vo, h1, fun k hk => (h2 k hk).1⟩
theorem OwnX.cell {w0 w : World} {a bx : Nat} {S : WSt} {e : EntP} {vd : Value} (h : OwnX w0 w a S bx (.cells #[.string e.path, .int .u32 (e.mode : Int), .int .u32 (e.mtime : Int), .string e.gid, vd] 47)) :
    w.cell? ⟨bx, 0, none⟩ = some (.string e.path) ∧ w.cell? ⟨bx, 1, none⟩ = some (.int .u32 (e.mode : Int)) ∧ w.cell? ⟨bx, 2, none⟩ = some (.int .u32 (e.mtime : Int)) ∧ w.cell? ⟨bx, 3, none⟩ = some (.string e.gid) ∧ w.cell? ⟨bx, 4, none⟩ = some vd := by
  refine ⟨?_, ?_, ?_, ?_, ?_⟩ <;> rw [cell_of_row _ _ _ _ _ _ h.2.1] <;> rfl
theorem conv_rd {w : World} {v : Value} {l : List UInt8} (h : Rd w v (l.map byteV)) : (convert 22 9 v).run Tryz.prog w = .ok (.string ⟨l.toArray⟩) w := by
  obtain ⟨A, c, hv, -, -, h3⟩ := h
  rw [List.length_map] at hv
  subst hv
  rcases A with _ | ad
  · have hl0 : l = [] := by
      rcases l with _ | ⟨x, l⟩
      · rfl
      · obtain ⟨g, off, e2, -⟩ := h3 0 (byteV x) rfl
        cases e2
    subst hl0
    exact Lib.run_convert_nil_bytes w 22 9 5 c Tryz.underlying22 Tryz.underlying5 Tryz.underlying9
  · rcases l with _ | ⟨x, l⟩
    · have h := run_convert_bytes_string (P := Tryz.prog) w 22 9 5 (some ad) 0 c Tryz.underlying22 Tryz.underlying5 Tryz.underlying9
      show (convert 22 9 (.slice (some ad) 0 c)).run Tryz.prog w = _
      rw [h]
      rfl
    · obtain ⟨g, off, e2, -⟩ := h3 0 (byteV x) rfl
      cases e2
      exact conv_bytes c (x :: l) (fun j b hj => by
        obtain ⟨g', off', e3, h4⟩ := h3 j (byteV b) (by rw [List.getElem?_map, hj]; rfl)
        cases e3
        exact h4)
theorem done_of {S : WSt} (h : S.err = 0) (ho : S.opens = []) : S.done = (S.bytes, 0) := by
  unfold WSt.done
  rw [if_neg (by omega), if_neg (by simpa using ho)]
theorem done_err {S : WSt} (h : S.err ≠ 0) : S.done = ([], S.err) := by
  unfold WSt.done
  rw [if_pos h]
/-- What Encode tells. -/
def encP (L : List EntP) : List UInt8 × Nat :=
  if L = [] ∨ L.all mayE = false then ([], 210) else if ordE L = false then ([], 211) else if 16777216 < 19 + sizeL L then ([], 11) else (fullD L, 0)
def baseD (n : Nat) : WSt := ((WSt.new 16777216).put headD).put (le n 4)
def RelEn (w : World) (L : List EntP) (a : Nat) (i : Value) (wr : World) : Prop :=
  ∃ k : Nat, k ≤ L.length ∧ i = .int .i64 k ∧ OwnW 88 w wr a ((baseD L.length).entries (L.take k))
def EncPost (w : World) (r : List UInt8 × Nat) (e : Ending) (w' : World) : Prop :=
  ∃ v, e = .returned (.tuple #[v, .int .i64 (r.2 : Int)]) ∧ w'.ownsRow w.heap.size 5 1 v r.1.length (r.1.map byteV) ∧ Mods [] w w'
set_option maxRecDepth 100000 in
set_option maxHeartbeats 2000000 in
theorem encode_any {w : World} (L : List EntP) {v : Value} (h : Ents w v L) (hz : ∀ e ∈ L, Small e) (hlen : L.length ≤ 100000000) (hT : Tabs w) :
    Calls Tryz.prog 6 #[v] w (EncPost w (encP L)) := by
  have H := Lib.hid h
  have HZ := Lib.hid hz
  have H1 := Lib.hid (containsfunc_any L h hz hT)
  have H2 := Lib.hid (fun w' (hw : Mods [] w w') => ordered_any L (h.mods hw) hz (hT.mods hw))
  have HQ := Lib.hid (show encP L = if L = [] ∨ L.all mayE = false then ([], 210) else if ordE L = false then ([], 211) else if 16777216 < 19 + sizeL L then ([], 11) else (fullD L, 0) from rfl)
  obtain ⟨A, c, rfl, -⟩ := h
  clear hz
  by_cases h0 : L = []
  · subst h0
    have HE : Hid (encP [] = ([], 210)) := Lib.hid rfl
    rw [HE.out]
    clear HQ H1 H2
    simp only [List.length_nil] at *
    go_enter Tryz.func6, Tryz.ntmps6
    go_wp2_with fail
    go_ret2
    exact ⟨_, rfl, World.ownsRow_nil _ _ _ _, Mods.refl _ _⟩
  have hne : (((L.length : Int) == 0) = false) := by
    simp
    exact h0
  cases hall : L.all mayE
  · have HE : Hid (encP L = ([], 210)) := Lib.hid (by rw [HQ.out, if_pos (Or.inr hall)])
    rw [HE.out]
    rw [hall] at H1
    clear HQ H2
    go_enter Tryz.func6, Tryz.ntmps6
    go_wp2_with fail
    refine H1.out.mono ?_
    rintro x w1 ⟨rfl, hm⟩
    have HM := Lib.hid hm
    clear hm
    go_wp2_with fail
    go_ret2
    exact ⟨_, rfl, World.ownsRow_nil _ _ _ _, HM.out⟩
  rw [hall] at H1
  cases hord : ordE L
  · have HE : Hid (encP L = ([], 211)) := Lib.hid (by rw [HQ.out, if_neg (by simp [h0, hall]), if_pos hord])
    rw [HE.out]
    rw [hord] at H2
    clear HQ
    go_enter Tryz.func6, Tryz.ntmps6
    go_wp2_with fail
    refine H1.out.mono ?_
    rintro x w1 ⟨rfl, hm⟩
    have HM := Lib.hid hm
    clear hm
    go_wp2_with fail
    refine (H2.out _ HM.out).mono ?_
    rintro x w2 ⟨rfl, hm⟩
    have HM2 := Lib.hid (HM.out.trans hm (by simp))
    clear hm
    go_wp2_with fail
    go_ret2
    exact ⟨_, rfl, World.ownsRow_nil _ _ _ _, HM2.out⟩
  rw [hord] at H2
  have kc := fun (w : World) (C : Array Value) (n c : Nat) => Lib.run_convert_bytes_const (P := Tryz.prog) w 22 5 C n c Tryz.underlying22 Tryz.underlying5
  go_enter Tryz.func6, Tryz.ntmps6
  go_wp2_with fail
  refine H1.out.mono ?_
  rintro x w1 ⟨rfl, hm⟩
  have HM := Lib.hid hm
  clear hm
  go_wp2_with fail
  refine (H2.out _ HM.out).mono ?_
  rintro x w2 ⟨rfl, hm⟩
  have HM2 := Lib.hid (HM.out.trans hm (by simp))
  clear hm HM H1 H2
  go_wp2_with fail
  refine (newWriter_ok 16777216 w2 (Nat.le_refl _)).mono ?_
  rintro x w3 ⟨rfl, hi, hm⟩
  have HW3 : Hid (OwnW 88 w w3 w2.heap.size (WSt.new 16777216)) := Lib.hid ⟨HM2.out.trans hm (by simp), _, _, hi, fun k hk => by
    have := HM2.out.size
    simp [foot, Value.ownBlock] at hk
    omega⟩
  generalize w2.heap.size = a at *
  clear hm hi
  have HW4 := Lib.hid (HW3.out.still ((Mods.refl [] w3).alloc (.cells #[.int .u8 118, .int .u8 100, .int .u8 117, .int .u8 109, .int .u8 112, .int .u8 49, .int .u8 10] 5 (7, 8))))
  have HR : Hid (Rd (w3.alloc (.cells #[.int .u8 118, .int .u8 100, .int .u8 117, .int .u8 109, .int .u8 112, .int .u8 49, .int .u8 10] 5 (7, 8))) (.slice (some ⟨w3.heap.size, 0, none⟩) 7 7) (headD.map byteV)) := Lib.hid (by
    refine ⟨_, 7, rfl, Nat.le_refl _, by unfold maxLen; decide, fun j u hu => ⟨w3.heap.size, 0, rfl, ?_⟩⟩
    rw [cell_of_row _ _ _ _ _ _ (heap_alloc_new w3 _)]
    simpa [headD, byteV] using hu)
  go_wp2_with fail
  generalize w3.alloc (.cells #[.int .u8 118, .int .u8 100, .int .u8 117, .int .u8 109, .int .u8 112, .int .u8 49, .int .u8 10] 5 (7, 8)) = w4 at *
  refine (HW4.out.raw headD HR.out).mono ?_
  rintro x w5 ⟨rfl, hw⟩
  have HW5 := Lib.hid hw
  clear hw HW3 HW4 HR
  have hcv : (L.length : Int) % 4294967296 = (L.length : Int) := by omega
  go_wp2_with fail
  refine (HW5.out.u32 L.length (by omega)).mono ?_
  rintro x w6 ⟨rfl, hw⟩
  have HW6 := Lib.hid hw
  clear hw HW5
  go_wp2_with fail
  go_loopw [35] (fun i wr => RelEn w L a i wr) (fun i _ => L.length - (intOf i).toNat)
  case atStart => exact ⟨0, by omega, rfl, HW6.out⟩
  case round =>
    obtain ⟨k, hk, rfl, hw⟩ := hrel
    have HW := Lib.hid hw
    clear hw HW6
    rcases Nat.lt_or_ge k L.length with hlt | hge
    · obtain ⟨e, hs⟩ : ∃ e, L[k]? = some e := ⟨_, List.getElem?_eq_getElem hlt⟩
      obtain ⟨g, off, vd, rfl, hrg0, hrd0⟩ := H.out.at hs
      have hrg := range_mods hrg0 HW.out.1 (by simp)
      have hrd := hrd0.mods HW.out.1 (by simp)
      obtain ⟨vA, vc, rfl, -⟩ := id hrd
      have RDW := fun {w' : World} (hw : Mods [] w w') => hrd0.mods hw (by simp)
      clear hrg0 hrd0
      have HRG := Lib.hid hrg
      have HRD := Lib.hid hrd
      have hsm := HZ.out e (List.mem_of_getElem? hs)
      clear hrg hrd
      rw [List.length_map] at *
      simp only [entC] at HRG
      have HX := Lib.hid (heap_alloc_new wr (.cells #[.string e.path, .int .u32 (e.mode : Int), .int .u32 (e.mtime : Int), .string e.gid, .slice vA e.data.length vc] 47))
      have hM2 := (Mods.refl [] wr).alloc (.cells #[.string e.path, .int .u32 (e.mode : Int), .int .u32 (e.mtime : Int), .string e.gid, .slice vA e.data.length vc] 47)
      have HW2 := Lib.hid (HW.out.box #[.string e.path, .int .u32 (e.mode : Int), .int .u32 (e.mtime : Int), .string e.gid, .slice vA e.data.length vc] 47)
      have HSN : Hid ((baseD L.length).entries (L.take (k + 1)) = ((baseD L.length).entries (L.take k)).entry e) := Lib.hid (by rw [List.take_add_one, hs]; exact WSt.entries_snoc _ _ _)
      clear hM2
      go_wp2_with (first | (refine wpList_load_mid rfl 47 _ rfl g (off + k * 5) rfl [.string e.path, .int .u32 (e.mode : Int), .int .u32 (e.mtime : Int), .string e.gid, .slice vA e.data.length vc] _ HRG.out Tryz.underlying47 rfl info38t ?_))
      generalize wr.alloc (.cells #[.string e.path, .int .u32 (e.mode : Int), .int .u32 (e.mtime : Int), .string e.gid, .slice vA e.data.length vc] 47) = w2' at *
      generalize wr.heap.size = bx at *
      generalize (baseD L.length).entries (L.take k) = S at *
      have hpm : e.path.size ≤ maxLen := by have := hsm.path; unfold maxLen; omega
      have hgm : e.gid.size ≤ maxLen := by have := hsm.gid; unfold maxLen; omega
      have hmo := hsm.mode
      have hmt := hsm.mtime
      have hda := hsm.data
      have HRW := Lib.hid (fun w' (hw : Mods [] w w') => (show Rd w' (.slice vA e.data.length vc) (e.data.map byteV) from RDW hw))
      have hcd : (e.data.length : Int) % 4294967296 = (e.data.length : Int) := by omega
      clear HRD HX hs
      refine (HW2.out.text e.path hpm (hT.mods HW2.out.1)).mono ?_
      rintro x q1 ⟨rfl, hw⟩
      have HV1 := Lib.hid hw
      obtain ⟨c0, c1, c2, c3, c4⟩ := hw.cell
      clear hw HW2
      go_wp2_with fail
      refine (HV1.out.u32 e.mode hmo).mono ?_
      rintro x q2 ⟨rfl, hw⟩
      have HV2 := Lib.hid hw
      obtain ⟨c0, c1, c2, c3, c4⟩ := hw.cell
      clear hw HV1
      go_wp2_with fail
      refine (HV2.out.u32 e.mtime hmt).mono ?_
      rintro x q3 ⟨rfl, hw⟩
      have HV3 := Lib.hid hw
      obtain ⟨c0, c1, c2, c3, c4⟩ := hw.cell
      clear hw HV2
      go_wp2_with fail
      refine (HV3.out.text e.gid hgm (hT.mods HV3.out.1)).mono ?_
      rintro x q4 ⟨rfl, hw⟩
      have HV4 := Lib.hid hw
      obtain ⟨c0, c1, c2, c3, c4⟩ := hw.cell
      clear hw HV3
      go_wp2_with fail
      refine (HV4.out.u32 e.data.length (by omega)).mono ?_
      rintro x q5 ⟨rfl, hw⟩
      have HV5 := Lib.hid hw
      obtain ⟨c0, c1, c2, c3, c4⟩ := hw.cell
      clear hw HV4
      go_wp2_with fail
      refine (HV5.out.raw e.data (HRW.out _ HV5.out.1)).mono ?_
      rintro x q6 ⟨rfl, hw⟩
      have HV6 := Lib.hid hw
      obtain ⟨c0, c1, c2, c3, c4⟩ := hw.cell
      clear hw HV5
      go_wp2_with fail
      exact ⟨⟨k + 1, by omega, rfl, by rw [HSN.out]; exact HV6.out.toW⟩, by simp only [intOf]; omega⟩
    · obtain rfl : k = L.length := by omega
      rw [List.take_length] at HW
      go_wp2_with fail
      have HDN := Lib.hid (show Calls Tryz.prog 28 #[.pointer (some ⟨a, 0, none⟩)] wr fun e w' => ∃ v, e = .returned (.tuple #[v, .int .i64 ((wroteD L).done.2 : Int)]) ∧ w'.ownsRow wr.heap.size 5 1 v (wroteD L).done.1.length ((wroteD L).done.1.map byteV) ∧ Mods [] wr w' by
        obtain ⟨h0', vb, vo, h1', h2'⟩ := HW.out
        exact done_any h1')
      by_cases hf : 16777216 < 11 + sizeL L
      · have herr := wroteD_full L hf
        rw [done_err herr] at HDN
        have HE : Hid (encP L = ([], 11)) := Lib.hid (by rw [HQ.out, if_neg (by simp [h0, hall]), if_neg (by simp [hord]), if_pos (by omega)])
        generalize (wroteD L).err = er at *
        refine HDN.out.mono ?_
        rintro x w7 ⟨v, rfl, ho, hm⟩
        obtain ⟨A9, c9, rfl⟩ := own_ctor ho
        have HM7 := Lib.hid (HW.out.1.trans hm (by simp))
        have hne2 : (((er : Int) != 0) = true) := bne_iff_ne.2 (by omega)
        clear ho hm HDN HQ HW
        go_wp2_with fail
        go_ret2
        rw [HE.out]
        exact ⟨_, rfl, World.ownsRow_nil _ _ _ _, HM7.out⟩
      · have hfine : ∀ e ∈ L, e.Fine := fun e he => may_fine (HZ.out e he).toFits (List.all_eq_true.1 hall e he)
        have hwd := wroteD_fits L hfine (by omega)
        rw [hwd, done_of rfl rfl] at HDN
        have HW7 : Hid (OwnW 88 w wr a ⟨16777216, bodyD L, [], 0⟩) := Lib.hid (by rw [← hwd]; exact HW.out)
        have HBL := Lib.hid (bodyD_length L)
        have HFU : Hid (fullD L = bodyD L ++ le (sumD (bodyD L)) 8) := Lib.hid rfl
        have hsl := sumD_lt (bodyD L)
        clear HW
        refine HDN.out.mono ?_
        rintro x w7 ⟨v, rfl, ho, hm⟩
        have hcv2 := conv_rd (Rd.of_own ho)
        have hss := sum_any (mkB (bodyD L)) w7 (by have := HBL.out; simp only [mkB, ByteArray.size, List.size_toArray]; omega)
        rw [data_mkB] at hss
        obtain ⟨A9, c9, rfl⟩ := own_ctor ho
        have HSS := Lib.hid hss
        have HW8 := Lib.hid (HW7.out.still hm)
        have HUS := Lib.hid (HW8.out.u64 (sumD (bodyD L)) hsl)
        rw [show (⟨(bodyD L).toArray⟩ : ByteArray) = mkB (bodyD L) from rfl] at hcv2
        generalize sumD (bodyD L) = sm at *
        clear ho hm HDN hss HW7
        go_wp2_with fail
        refine HSS.out.mono ?_
        rintro x w8 ⟨rfl, rfl⟩
        go_wp2_with fail
        refine HUS.out.mono ?_
        rintro x w9 ⟨rfl, hw⟩
        have HDN := Lib.hid (show Calls Tryz.prog 28 #[.pointer (some ⟨a, 0, none⟩)] w9 fun e w' => ∃ v, e = .returned (.tuple #[v, .int .i64 ((((⟨16777216, bodyD L, [], 0⟩ : WSt).put (le sm 8)).done).2 : Int)]) ∧ w'.ownsRow w9.heap.size 5 1 v (((⟨16777216, bodyD L, [], 0⟩ : WSt).put (le sm 8)).done).1.length ((((⟨16777216, bodyD L, [], 0⟩ : WSt).put (le sm 8)).done).1.map byteV) ∧ Mods [] w9 w' by
          obtain ⟨h0', vb, vo, h1', h2'⟩ := hw
          exact done_any h1')
        have HM9 := Lib.hid hw.1
        clear hw HW8 HUS hcv2
        by_cases hf2 : 16777216 < 19 + sizeL L
        · rw [WSt.put_full _ rfl (by have := HBL.out; simp only [le_length]; omega), done_err (by simp)] at HDN
          have HE : Hid (encP L = ([], 11)) := Lib.hid (by rw [HQ.out, if_neg (by simp [h0, hall]), if_neg (by simp [hord]), if_pos (by omega)])
          go_wp2_with fail
          refine HDN.out.mono ?_
          rintro x w10 ⟨v, rfl, ho, hm⟩
          obtain ⟨A10, c10, rfl⟩ := own_ctor ho
          have HM10 := Lib.hid (HM9.out.trans hm (by simp))
          clear ho hm HDN
          go_wp2_with fail
          go_ret2
          rw [HE.out]
          exact ⟨_, rfl, World.ownsRow_nil _ _ _ _, HM10.out⟩
        · rw [WSt.put_fits _ rfl (by have := HBL.out; simp only [le_length]; omega), done_of rfl rfl] at HDN
          have HE : Hid (encP L = (fullD L, 0)) := Lib.hid (by rw [HQ.out, if_neg (by simp [h0, hall]), if_neg (by simp [hord]), if_neg (by omega)])
          simp only at HDN
          rw [← HFU.out] at HDN
          go_wp2_with fail
          refine HDN.out.mono ?_
          rintro x w10 ⟨v, rfl, ho, hm⟩
          obtain ⟨A10, c10, rfl⟩ := own_ctor ho
          have HM10 := Lib.hid (HM9.out.trans hm (by simp))
          have HO10 := Lib.hid (ownsRow_base ho HM9.out.size)
          clear ho hm HDN
          go_wp2_with fail
          go_ret2
          rw [HE.out]
          exact ⟨_, rfl, HO10.out, HM10.out⟩
end Go.Proofs.YtmcekhgmmocajaaGreatDoor
