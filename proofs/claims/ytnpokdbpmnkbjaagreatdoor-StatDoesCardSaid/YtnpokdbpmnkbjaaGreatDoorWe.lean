/- A step of the law's script in memory; the law's step. | The law's weights, exactly; a script in memory; beyond. -/
import Derived.Test.YtnpokdbpmnkbjaaGreatDoorCc
import Derived.Test.YtnpokdbpmnkbjaaGreatDoorCd
import Derived.Test.YtnpokdbpmnkbjaaGreatDoorCe
import Derived.Test.YtnpokdbpmnkbjaaGreatDoorCf
import Derived.Test.YtnpokdbpmnkbjaaGreatDoorCi
import Derived.Test.YtnpokdbpmnkbjaaGreatDoorCp
namespace Go.Proofs.YtnpokdbpmnkbjaaGreatDoor
open Go Go.RowKit Me

def opV (kind : Int) (s t : StatP) (vb vc : Value) (num : Int) (vl vm : Value) (text : ByteArray) : Array Value :=
  #[.int .i64 kind, .int .u16 (s.typ : Int), .int .u32 (s.dev : Int), .int .u8 (s.qid.kind : Int), .int .u32 (s.qid.vers : Int), .int .u64 (s.qid.path : Int), .int .u32 (s.mode : Int), .int .u32 (s.atime : Int), .int .u32 (s.mtime : Int), .int .u64 (s.length : Int), .string s.name, .string s.uid, .string s.gid, .string s.muid, .int .u16 (t.typ : Int), .int .u32 (t.dev : Int), .int .u8 (t.qid.kind : Int), .int .u32 (t.qid.vers : Int), .int .u64 (t.qid.path : Int), .int .u32 (t.mode : Int), .int .u32 (t.atime : Int), .int .u32 (t.mtime : Int), .int .u64 (t.length : Int), .string t.name, .string t.uid, .string t.gid, .string t.muid, vb, vc, .int .i64 num, vl, vm, .string text]
theorem op_cells {w : World} {b : Nat} {T : TypeId} {kind : Int} {s t : StatP} {vb vc : Value} {num : Int} {vl vm : Value} {text : ByteArray} (h : w.heap[b]? = some (.cells (opV kind s t vb vc num vl vm text) T (0, 0))) :
    w.cell? ⟨b, 0, none⟩ = some (.int .i64 kind) ∧ w.cell? ⟨b, 1, none⟩ = some (.int .u16 (s.typ : Int)) ∧ w.cell? ⟨b, 2, none⟩ = some (.int .u32 (s.dev : Int)) ∧ w.cell? ⟨b, 3, none⟩ = some (.int .u8 (s.qid.kind : Int)) ∧ w.cell? ⟨b, 4, none⟩ = some (.int .u32 (s.qid.vers : Int)) ∧ w.cell? ⟨b, 5, none⟩ = some (.int .u64 (s.qid.path : Int)) ∧ w.cell? ⟨b, 6, none⟩ = some (.int .u32 (s.mode : Int)) ∧ w.cell? ⟨b, 7, none⟩ = some (.int .u32 (s.atime : Int)) ∧ w.cell? ⟨b, 8, none⟩ = some (.int .u32 (s.mtime : Int)) ∧ w.cell? ⟨b, 9, none⟩ = some (.int .u64 (s.length : Int)) ∧ w.cell? ⟨b, 10, none⟩ = some (.string s.name) ∧ w.cell? ⟨b, 11, none⟩ = some (.string s.uid) ∧ w.cell? ⟨b, 12, none⟩ = some (.string s.gid) ∧ w.cell? ⟨b, 13, none⟩ = some (.string s.muid) ∧ w.cell? ⟨b, 14, none⟩ = some (.int .u16 (t.typ : Int)) ∧ w.cell? ⟨b, 15, none⟩ = some (.int .u32 (t.dev : Int)) ∧ w.cell? ⟨b, 16, none⟩ = some (.int .u8 (t.qid.kind : Int)) ∧ w.cell? ⟨b, 17, none⟩ = some (.int .u32 (t.qid.vers : Int)) ∧ w.cell? ⟨b, 18, none⟩ = some (.int .u64 (t.qid.path : Int)) ∧ w.cell? ⟨b, 19, none⟩ = some (.int .u32 (t.mode : Int)) ∧ w.cell? ⟨b, 20, none⟩ = some (.int .u32 (t.atime : Int)) ∧ w.cell? ⟨b, 21, none⟩ = some (.int .u32 (t.mtime : Int)) ∧ w.cell? ⟨b, 22, none⟩ = some (.int .u64 (t.length : Int)) ∧ w.cell? ⟨b, 23, none⟩ = some (.string t.name) ∧ w.cell? ⟨b, 24, none⟩ = some (.string t.uid) ∧ w.cell? ⟨b, 25, none⟩ = some (.string t.gid) ∧ w.cell? ⟨b, 26, none⟩ = some (.string t.muid) ∧ w.cell? ⟨b, 27, none⟩ = some (vb) ∧ w.cell? ⟨b, 28, none⟩ = some (vc) ∧ w.cell? ⟨b, 29, none⟩ = some (.int .i64 num) ∧ w.cell? ⟨b, 30, none⟩ = some (vl) ∧ w.cell? ⟨b, 31, none⟩ = some (vm) ∧ w.cell? ⟨b, 32, none⟩ = some (.string text) := by
  refine ⟨?_, ?_, ?_, ?_, ?_, ?_, ?_, ?_, ?_, ?_, ?_, ?_, ?_, ?_, ?_, ?_, ?_, ?_, ?_, ?_, ?_, ?_, ?_, ?_, ?_, ?_, ?_, ?_, ?_, ?_, ?_, ?_, ?_⟩ <;> (rw [cell_of_row _ _ _ _ _ _ h]; rfl)
/-- What is asked of a step's arguments. -/
structure OpOk (w0 w : World) (s t : StatP) (vb vc : Value) (B C : List UInt8) (num : Int) (vl vm : Value) (L M : List StatP) (text : ByteArray) : Prop where
  sf : s.Fits
  sz : s.size ≤ 268435456
  tf : t.Fits
  tz : t.size ≤ 268435456
  b : ArgB w0 vb B
  c : ArgB w0 vc C
  n : -9223372036854775808 ≤ num ∧ num ≤ 9223372036854775807
  l : ArgL w vl L
  m : ArgS w0 vm M
  x : text.size ≤ 268435456
theorem Me.Post.box {p q : Pc} {w0 w : World} {x : Pc} (h : Post ((x.star (p.star q))) w0 [] w) : Post (x.star q) w0 [] w := h.ent ((Pc.Ent.refl _).mono (Pc.Ent.right _ _))
theorem BkQ.up {b n : Nat} {R : Pc} {w0 w : World} (h : Post ((BkQ b n).star R) w0 [] w) : Post ((BkQ b (n + 1)).star R) w0 [] w := h.ent ((BkQ.more b n).mono (Pc.Ent.refl _))
set_option maxRecDepth 100000 in
set_option maxHeartbeats 8000000 in
theorem kstep_any {w0 w : World} {b n : Nat} {R : Pc} {kind num : Int} {s t : StatP} {vb vc vl vm : Value} {B C : List UInt8} {L M : List StatP} {text : ByteArray} (h : Post ((BkQ b n).star R) w0 [] w) (hn : n ≤ 999990000) (hT : Lib.Utf8Tabs 0 1 w0)
    (ho : OpOk w0 w s t vb vc B C num vl vm L M text) :
    Calls Tryz.prog 5 #[.pointer (some ⟨b, 0, none⟩), .agg (opV kind s t vb vc num vl vm text)] w fun e w' => e = .returned (.bool true) ∧ Post ((BkQ b (n + 2)).star R) w0 [] w' := by
  have hp0 := (h.alloc (.cells (opV kind s t vb vc num vl vm text) 40)).ent (Pc.Ent.swap _ _ _)
  have H0 := Lib.hid hp0
  have HT := Lib.hid hT
  have HO := Lib.hid ho
  have HLL := Lib.hid (ho.l.mods ((Mods.refl [] w).alloc (.cells (opV kind s t vb vc num vl vm text) 40)))
  have hb := hp0.blkOf ((Pc.Ent.right _ _).trans (Pc.Ent.left _ _))
  obtain ⟨Ab, cb, rfl, -⟩ := rd_slice ho.b.rd
  obtain ⟨Ac, cc, rfl, -⟩ := rd_slice ho.c.rd
  obtain ⟨Al, cl, rfl, -⟩ := ho.l.rd
  obtain ⟨Am, cm, rfl, -⟩ := ho.m.rd
  obtain ⟨c0, c1, c2, c3, c4, c5, c6, c7, c8, c9, c10, c11, c12, c13, c14, c15, c16, c17, c18, c19, c20, c21, c22, c23, c24, c25, c26, c27, c28, c29, c30, c31, c32⟩ := op_cells hb
  clear h hp0 hT hb ho
  go_enter Tryz.func5, Tryz.ntmps5
  go_upto_region 1 with fail
  generalize w.alloc (.cells (opV kind s t (.slice Ab B.length cb) (.slice Ac C.length cc) num (.slice Al L.length cl) (.slice Am M.length cm) text) 40) = w1 at *
  generalize w.heap.size = bo at *
  by_cases k1 : kind = 1
  · subst k1
    go_wp2_with fail
    clear c0 c1 c2 c3 c4 c5 c6 c7 c8 c9 c10 c11 c12 c13 c14 c15 c16 c17 c18 c19 c20 c21 c22 c23 c24 c25 c26 c27 c28 c29 c30 c31 c32
    refine (kencode_any H0.out (by omega) HT.out s HO.out.sf HO.out.sz).mono ?_; rintro e w2 ⟨rfl, hp⟩
    have H2 := Lib.hid (Me.Post.box (BkQ.up hp))
    clear hp H0
    go_wp2_with fail
    go_ret
    exact ⟨rfl, H2.out⟩
  have q1 : (kind == 1) = false := by simpa using k1
  clear k1
  by_cases k2 : kind = 2
  · subst k2
    go_wp2_with fail
    clear c0 c1 c2 c3 c4 c5 c6 c7 c8 c9 c10 c11 c12 c13 c14 c15 c16 c17 c18 c19 c20 c21 c22 c23 c24 c25 c26 c27 c28 c29 c30 c31 c32
    refine (kdecode_any H0.out HT.out HO.out.b HO.out.c).mono ?_; rintro e w2 ⟨rfl, hp⟩
    have H2 := Lib.hid (Me.Post.box (BkQ.up (BkQ.up hp)))
    clear hp H0
    go_wp2_with fail
    go_ret
    exact ⟨rfl, H2.out⟩
  have q2 : (kind == 2) = false := by simpa using k2
  clear k2
  by_cases k3 : kind = 3
  · subst k3
    go_wp2_with fail
    clear c0 c1 c2 c3 c4 c5 c6 c7 c8 c9 c10 c11 c12 c13 c14 c15 c16 c17 c18 c19 c20 c21 c22 c23 c24 c25 c26 c27 c28 c29 c30 c31 c32
    refine (krecords_any H0.out (by omega) HT.out HO.out.b HO.out.c).mono ?_; rintro e w2 ⟨rfl, hp⟩
    have H2 := Lib.hid (Me.Post.box hp)
    clear hp H0
    go_wp2_with fail
    go_ret
    exact ⟨rfl, H2.out⟩
  have q3 : (kind == 3) = false := by simpa using k3
  clear k3
  by_cases k4 : kind = 4
  · subst k4
    go_wp2_with fail
    clear c0 c1 c2 c3 c4 c5 c6 c7 c8 c9 c10 c11 c12 c13 c14 c15 c16 c17 c18 c19 c20 c21 c22 c23 c24 c25 c26 c27 c28 c29 c30 c31 c32
    refine (keach_any H0.out HT.out HO.out.b HO.out.c num).mono ?_; rintro e w2 ⟨rfl, hp⟩
    have H2 := Lib.hid (Me.Post.box (BkQ.up (BkQ.up hp)))
    clear hp H0
    go_wp2_with fail
    go_ret
    exact ⟨rfl, H2.out⟩
  have q4 : (kind == 4) = false := by simpa using k4
  clear k4
  by_cases k5 : kind = 5
  · subst k5
    go_wp2_with fail
    clear c0 c1 c2 c3 c4 c5 c6 c7 c8 c9 c10 c11 c12 c13 c14 c15 c16 c17 c18 c19 c20 c21 c22 c23 c24 c25 c26 c27 c28 c29 c30 c31 c32
    refine (kpack_any H0.out (by omega) HT.out num HO.out.n HLL.out HO.out.m).mono ?_; rintro e w2 ⟨rfl, hp⟩
    have H2 := Lib.hid (Me.Post.box hp)
    clear hp H0
    go_wp2_with fail
    go_ret
    exact ⟨rfl, H2.out⟩
  have q5 : (kind == 5) = false := by simpa using k5
  clear k5
  by_cases k6 : kind = 6
  · subst k6
    go_wp2_with fail
    clear c0 c1 c2 c3 c4 c5 c6 c7 c8 c9 c10 c11 c12 c13 c14 c15 c16 c17 c18 c19 c20 c21 c22 c23 c24 c25 c26 c27 c28 c29 c30 c31 c32
    refine (touch_any s t _ HO.out.sf HO.out.tf).mono ?_; rintro e w2 ⟨rfl, hm⟩
    have H2 := Lib.hid (Me.Post.box (BkQ.up (BkQ.up (H0.out.still hm))))
    clear hm H0
    go_wp2_with fail
    go_ret
    exact ⟨rfl, H2.out⟩
  have q6 : (kind == 6) = false := by simpa using k6
  clear k6
  by_cases k7 : kind = 7
  · subst k7
    go_wp2_with fail
    clear c0 c1 c2 c3 c4 c5 c6 c7 c8 c9 c10 c11 c12 c13 c14 c15 c16 c17 c18 c19 c20 c21 c22 c23 c24 c25 c26 c27 c28 c29 c30 c31 c32
    refine (kmode_any s.mode text _ HO.out.sf.mode HO.out.x).mono ?_; rintro e w2 ⟨rfl, hm⟩
    have H2 := Lib.hid (Me.Post.box (BkQ.up (BkQ.up (H0.out.still hm))))
    clear hm H0
    go_wp2_with fail
    go_ret
    exact ⟨rfl, H2.out⟩
  have q7 : (kind == 7) = false := by simpa using k7
  clear k7
  by_cases k8 : kind = 8
  · subst k8
    go_wp2_with fail
    clear c0 c1 c2 c3 c4 c5 c6 c7 c8 c9 c10 c11 c12 c13 c14 c15 c16 c17 c18 c19 c20 c21 c22 c23 c24 c25 c26 c27 c28 c29 c30 c31 c32
    refine (kwritten_any H0.out (by omega) HT.out num s t HO.out.sf HO.out.sz HO.out.tf HO.out.tz).mono ?_; rintro e w2 ⟨rfl, hp⟩
    have H2 := Lib.hid (Me.Post.box (BkQ.up hp))
    clear hp H0
    go_wp2_with fail
    go_ret
    exact ⟨rfl, H2.out⟩
  have q8 : (kind == 8) = false := by simpa using k8
  clear k8
  by_cases k9 : kind = 9
  · subst k9
    go_wp2_with fail
    clear c0 c1 c2 c3 c4 c5 c6 c7 c8 c9 c10 c11 c12 c13 c14 c15 c16 c17 c18 c19 c20 c21 c22 c23 c24 c25 c26 c27 c28 c29 c30 c31 c32
    refine (ktaken_any B (HO.out.b.at H0.out) HO.out.b.len (tabs_mods H0.out.mods HT.out)).mono ?_; rintro e w2 ⟨rfl, hm⟩
    have H2 := Lib.hid (Me.Post.box (BkQ.up (BkQ.up (H0.out.still hm))))
    clear hm H0
    go_wp2_with fail
    go_ret
    exact ⟨rfl, H2.out⟩
  have q9 : (kind == 9) = false := by simpa using k9
  clear k9
  by_cases k10 : kind = 10
  · subst k10
    go_wp2_with fail
    clear c0 c1 c2 c3 c4 c5 c6 c7 c8 c9 c10 c11 c12 c13 c14 c15 c16 c17 c18 c19 c20 c21 c22 c23 c24 c25 c26 c27 c28 c29 c30 c31 c32
    refine (knone_any s _).mono ?_; rintro e w2 ⟨rfl, hm⟩
    have H2 := Lib.hid (Me.Post.box (BkQ.up (BkQ.up (H0.out.still hm))))
    clear hm H0
    go_wp2_with fail
    go_ret
    exact ⟨rfl, H2.out⟩
  have q10 : (kind == 10) = false := by simpa using k10
  clear k10
  have H2 := Lib.hid (Me.Post.box (BkQ.up (BkQ.up H0.out)))
  clear c1 c2 c3 c4 c5 c6 c7 c8 c9 c10 c11 c12 c13 c14 c15 c16 c17 c18 c19 c20 c21 c22 c23 c24 c25 c26 c27 c28 c29 c30 c31 c32 H0
  go_wp2_with fail
  go_ret
  exact ⟨rfl, H2.out⟩
end Go.Proofs.YtnpokdbpmnkbjaaGreatDoor
namespace Go.Proofs.YtnpokdbpmnkbjaaGreatDoor
open Go Go.RowKit Me

/-- The weights of records, till the bound is passed. -/
def wsum : List StatP → Nat → Nat
  | [], n => n
  | s :: L, n => if n ≤ 268435456 then wsum L (n + s.size) else n
theorem wsum_enc : ∀ (L : List StatP) (n : Nat), wsum L n ≤ 268435456 → wsum L n = n + (encT L).length
  | [], n, _ => by simp [wsum, encT]
  | s :: L, n, h => by
    unfold wsum at h ⊢
    by_cases hn : n ≤ 268435456
    · rw [if_pos hn] at h ⊢
      rw [wsum_enc L _ h, show encT (s :: L) = s.enc ++ encT L by simp [encT], List.length_append, s.enc_length]
      omega
    · rw [if_neg hn] at h
      omega
theorem wsum_big : ∀ (L : List StatP) (n : Nat), (∀ s ∈ L, s.size ≤ 600000000000000) → n ≤ 600000268435456 → wsum L n ≤ 600000268435456
  | [], n, _, h => h
  | s :: L, n, hs, h => by
    unfold wsum
    split
    · exact wsum_big L _ (fun x hx => hs x (List.mem_cons_of_mem _ hx)) (by have := hs s (by simp); omega)
    · exact h
theorem wsum_stop {L : List StatP} {n : Nat} (h : ¬ n ≤ 268435456) : wsum L n = n := by
  cases L with
  | nil => rfl
  | cons s L => unfold wsum; rw [if_neg h]
def RelW2 (L : List StatP) (w : World) (n i : Value) (wr : World) : Prop :=
  ∃ k m : Nat, k ≤ L.length ∧ i = .int .i64 k ∧ n = .int .i64 (m : Int) ∧ m ≤ 600000268435456 ∧ k * 49 ≤ m ∧ wsum L 0 = wsum (L.drop k) m ∧ Mods [] w wr
set_option maxRecDepth 100000 in
set_option maxHeartbeats 1000000 in
theorem weights2_any {w : World} (L : List StatP) {v : Value} (h : Sts w v L) (hz : ∀ s ∈ L, s.size ≤ 600000000000000) :
    Calls Tryz.prog 8 #[v] w fun e w' => e = .returned (.int .i64 (wsum L 0 : Int)) ∧ Mods [] w w' := by
  have H := Lib.hid h
  have HZ := Lib.hid hz
  obtain ⟨A, c, rfl, -⟩ := h
  clear hz
  have hW : ∃ W, wsum L 0 = W := ⟨_, rfl⟩
  obtain ⟨W, hW⟩ := hW
  have HW0 := Lib.hid hW
  rw [hW]
  clear hW
  go_enter Tryz.func8, Tryz.ntmps8
  go_wp2_with fail
  go_loopw [3, 4] (fun n i wr => RelW2 L w n i wr) (fun _ i _ => L.length - (intOf i).toNat)
  case atStart => exact ⟨0, 0, by omega, rfl, rfl, by omega, by omega, rfl, Mods.refl _ _⟩
  case round =>
    obtain ⟨k, m, hk, rfl, rfl, hm, hkm, hall, hmm⟩ := hrel
    have HALL := Lib.hid hall
    have HMM := Lib.hid hmm
    clear hall
    rcases Nat.lt_or_ge k L.length with hlt | hge
    · by_cases hroom : m ≤ 268435456
      · obtain ⟨s, hs⟩ : ∃ s, L[k]? = some s := ⟨_, List.getElem?_eq_getElem hlt⟩
        obtain ⟨g, off, rfl, hrg⟩ := (H.out.mods hmm).at hs
        have HRG := Lib.hid hrg
        have hsz := HZ.out s (List.mem_of_getElem? hs)
        have HW := Lib.hid (fun w' => weight_any s w' hsz)
        have h49 : 49 ≤ s.size := by unfold StatP.size; omega
        have HTK : Hid (wsum L 0 = wsum (L.drop (k + 1)) (m + s.size)) := Lib.hid (by
          have e : L.drop k = s :: L.drop (k + 1) := by
            rw [List.drop_eq_getElem_cons hlt]
            congr 1
            have := (List.getElem?_eq_some_iff.1 hs).2
            simp [this]
          rw [HALL.out, e]
          conv => lhs; unfold wsum
          rw [if_pos hroom])
        clear hrg hs hmm
        go_wp2_with (first | (refine wpList_load_mid rfl 35 _ rfl g (off + k * 13) rfl (statV s).toList _ HRG.out Tryz.underlying35 rfl info90t ?_))
        refine (HW.out _).mono ?_; rintro e w1 ⟨rfl, hm1⟩
        have HR : Hid (RelW2 L w (.int .i64 ((m : Int) + (s.size : Int))) (.int .i64 ((k : Int) + 1)) w1) := Lib.hid ⟨k + 1, m + s.size, by omega, rfl, by congr 1, by omega, by omega, HTK.out, HMM.out.trans hm1 (by simp)⟩
        clear hm1
        go_wp2_with fail
        exact ⟨HR.out, by simp only [intOf]; omega⟩
      · have HE : Hid (m = W) := Lib.hid (by rw [← HW0.out, HALL.out, wsum_stop hroom])
        clear hmm
        go_wp2_with fail
        go_ret
        exact ⟨by rw [HE.out]; rfl, HMM.out⟩
    · obtain rfl : k = L.length := by omega
      have HE : Hid (m = W) := Lib.hid (by rw [← HW0.out, HALL.out, List.drop_length]; rfl)
      clear hmm
      go_wp2_with fail
      go_ret
      exact ⟨by rw [HE.out]; rfl, HMM.out⟩
/-- A step, plainly. -/
structure StP where
  kind : Int
  s : StatP
  t : StatP
  vb : Value
  vc : Value
  B : List UInt8
  C : List UInt8
  num : Int
  vl : Value
  vm : Value
  L : List StatP
  M : List StatP
  text : ByteArray
namespace StP
def v (p : StP) : Array Value := opV p.kind p.s p.t p.vb p.vc p.num p.vl p.vm p.text
structure In (w : World) (p : StP) : Prop where
  b : Rd w p.vb (p.B.map byteV)
  c : Rd w p.vc (p.C.map byteV)
  l : Sts w p.vl p.L
  m : Sts w p.vm p.M
structure Raw (p : StP) : Prop where
  s : p.s.size ≤ 600000000000000
  t : p.t.size ≤ 600000000000000
  b : p.B.length ≤ 140737488355328
  c : p.C.length ≤ 140737488355328
  l : ∀ x ∈ p.L, x.size ≤ 600000000000000
  m : ∀ x ∈ p.M, x.size ≤ 600000000000000
  x : p.text.size ≤ 140737488355328
def weight (p : StP) : Nat := 100 + p.s.size + p.t.size + p.B.length + p.C.length + p.text.size + wsum p.L 0 + wsum p.M 0
theorem In.mods {w w' : World} {p : StP} (h : p.In w) (hm : Mods [] w w') : p.In w' := ⟨h.b.mods hm (by simp), h.c.mods hm (by simp), h.l.mods hm, h.m.mods hm⟩
end StP
/-- A script in memory. -/
def Scr (w : World) (v : Value) (P : List StP) : Prop :=
  ∃ A c, v = .slice A P.length c ∧ P.length ≤ c ∧ c ≤ maxLen ∧ ∀ i p, P[i]? = some p → (∃ g off, A = some ⟨g, off, none⟩ ∧ w.rangeAt g (off + i * 33) p.v.toList) ∧ p.In w
theorem Scr.mods {w w' : World} {v : Value} {P : List StP} (h : Scr w v P) (hm : Mods [] w w') : Scr w' v P := by
  obtain ⟨A, c, e, h1, h2, h3⟩ := h
  refine ⟨A, c, e, h1, h2, fun i p hp => ?_⟩
  obtain ⟨⟨g, off, e1, h4⟩, h5⟩ := h3 i p hp
  exact ⟨⟨g, off, e1, range_mods h4 hm (by simp)⟩, h5.mods hm⟩
theorem Scr.at {w : World} {A : Option Addr} {n c : Nat} {P : List StP} (h : Scr w (.slice A n c) P) {i : Nat} {p : StP} (hp : P[i]? = some p) : (∃ g off, A = some ⟨g, off, none⟩ ∧ w.rangeAt g (off + i * 33) p.v.toList) ∧ p.In w := by
  obtain ⟨A', c', e, _, _, h3⟩ := h
  have e0 := (Value.slice.inj e).1
  subst e0
  exact h3 i p hp
theorem info40 : (Tryz.prog.info? 40).map (·.size) = some 33 := by kernel_rfl
def zeroO : Array Value := #[.int .i64 0, .int .u16 0, .int .u32 0, .int .u8 0, .int .u32 0, .int .u64 0, .int .u32 0, .int .u32 0, .int .u32 0, .int .u64 0, .string ⟨#[]⟩, .string ⟨#[]⟩, .string ⟨#[]⟩, .string ⟨#[]⟩, .int .u16 0, .int .u32 0, .int .u8 0, .int .u32 0, .int .u64 0, .int .u32 0, .int .u32 0, .int .u32 0, .int .u64 0, .string ⟨#[]⟩, .string ⟨#[]⟩, .string ⟨#[]⟩, .string ⟨#[]⟩, .slice none 0 0, .slice none 0 0, .int .i64 0, .slice none 0 0, .slice none 0 0, .string ⟨#[]⟩]
theorem opV_one {kind : Int} {s t : StatP} {Ab Ac Al Am : Option Addr} {nb nc nl nm cb cc cl cm : Nat} {num : Int} {text : ByteArray} : ∀ v ∈ (opV kind s t (.slice Ab nb cb) (.slice Ac nc cc) num (.slice Al nl cl) (.slice Am nm cm) text).toList, v.oneCell' = true := by
  intro v hv
  simp only [opV, List.mem_cons, List.not_mem_nil, or_false] at hv
  rcases hv with h | h | h | h | h | h | h | h | h | h | h | h | h | h | h | h | h | h | h | h | h | h | h | h | h | h | h | h | h | h | h | h | h <;> (subst h; rfl)
namespace Me
section
variable {P : Program} {ops : Array Oper} {C : World → Prop}
theorem wpQuiet_load_mid {Q : Act → Prop} {a : Act} {o : Oper} {rest : List Oper} (hw : Region.wanted o (yielded ops a.tmps) = true) (ty : TypeId) (x : Operand) (ho : o.op = .load ty x)
    (g off : Nat) (hx : a.eval x = .pointer (some ⟨g, off, none⟩)) (cs : Array Value) (d : TypeDesc) (hg : ∀ w', C w' → w'.rangeAt g off cs.toList)
    (hu : P.underlying ty = some d) (hd : d.isRow = true) (hi : (P.info? ty).map (·.size) = some cs.size)
    (h : wpQuiet P ops C Q rest (a.put o.dst (.agg cs))) : wpQuiet P ops C Q (o :: rest) a := by
  refine wpQuiet_want hw ⟨.agg cs, fun w' hw' => ?_, h⟩
  unfold Oper.quietAt execOp
  simp only [ho, hx, Instr.loadAt, Instr.sureAddr, Sem.run_bind, Sem.run_pure, Result.andThen_ok, run_loadVar_mid w' g off ty cs.toList d (hg w' hw') hu hd (by simpa using hi)]
  exact ⟨rfl, by simp⟩
theorem wpQuiet_load_cell {Q : Act → Prop} {a : Act} {o : Oper} {rest : List Oper} (hw : Region.wanted o (yielded ops a.tmps) = true) (ty : TypeId) (x : Operand) (ho : o.op = .load ty x)
    (ad : Addr) (hx : a.eval x = .pointer (some ad)) (v : Value) (hg : ∀ w', C w' → w'.cell? ad = some v) (ha : ∀ w', (isAgg ty).run P w' = .ok false w')
    (h : wpQuiet P ops C Q rest (a.put o.dst v)) : wpQuiet P ops C Q (o :: rest) a := by
  refine wpQuiet_want hw ⟨v, fun w' hw' => ?_, h⟩
  unfold Oper.quietAt execOp
  simp only [ho, hx, Instr.loadAt, Instr.sureAddr, Sem.run_bind, Sem.run_pure, Result.andThen_ok, loadVar, ha, Bool.false_eq_true, if_false, run_load, hg w' hw']
  exact ⟨rfl, rfl⟩
end
end Me
section
variable {w : World} {b : Nat} {T : TypeId} {kind : Int} {s t : StatP} {vb vc : Value} {num : Int} {vl vm : Value} {text : ByteArray}
theorem op_s (h : w.heap[b]? = some (.cells (opV kind s t vb vc num vl vm text) T (0, 0))) : w.rangeAt b 1 (statV s).toList := by
  intro j v hj
  have hl := (List.getElem?_eq_some_iff.1 hj).1
  rw [cell_of_row _ _ _ _ _ _ h]
  have e : opV kind s t vb vc num vl vm text = ([Value.int .i64 kind] ++ ((statV s).toList ++ ((statV t).toList ++ [vb, vc, .int .i64 num, vl, vm, .string text]))).toArray := rfl
  rw [e, List.getElem?_toArray, List.getElem?_append_right (by simp), List.getElem?_append_left (by simpa using hl)]
  simpa using hj
theorem op_t (h : w.heap[b]? = some (.cells (opV kind s t vb vc num vl vm text) T (0, 0))) : w.rangeAt b 14 (statV t).toList := by
  intro j v hj
  have hl := (List.getElem?_eq_some_iff.1 hj).1
  rw [cell_of_row _ _ _ _ _ _ h]
  have e : opV kind s t vb vc num vl vm text = (([Value.int .i64 kind] ++ (statV s).toList) ++ ((statV t).toList ++ [vb, vc, .int .i64 num, vl, vm, .string text])).toArray := rfl
  have h14 : ([Value.int .i64 kind] ++ (statV s).toList).length = 14 := rfl
  rw [e, List.getElem?_toArray, List.getElem?_append_right (by omega), List.getElem?_append_left (by rw [h14]; simpa using hl), h14, show 14 + j - 14 = j by omega]
  exact hj
end
def RelBe (P : List StP) (w : World) (n i : Value) (wr : World) : Prop :=
  ∃ k m : Nat, k ≤ P.length ∧ i = .int .i64 k ∧ n = .int .i64 (m : Int) ∧ m ≤ 4000000000000000 ∧ k * 198 ≤ m ∧ (∀ p ∈ P.take k, p.weight ≤ m) ∧ Mods [] w wr
set_option maxRecDepth 100000 in
set_option maxHeartbeats 4000000 in
theorem beyond_any {w : World} (P : List StP) {v : Value} (h : Scr w v P) (hr : ∀ p ∈ P, p.Raw) :
    Calls Tryz.prog 4 #[v] w fun e w' => ∃ far : Bool, e = .returned (.bool far) ∧ (far = false → P.length * 198 ≤ 268435456 ∧ ∀ p ∈ P, p.weight ≤ 268435456) ∧ Mods [] w w' := by
  have H := Lib.hid h
  have HR := Lib.hid hr
  obtain ⟨A, c, rfl, -⟩ := h
  clear hr
  go_enter Tryz.func4, Tryz.ntmps4
  go_wp2_with fail
  go_loopw [3, 4, 5] (fun n i _ wr => RelBe P w n i wr) (fun _ i _ _ => P.length - (intOf i).toNat)
  case atStart => exact ⟨0, 0, by omega, rfl, rfl, by omega, by omega, by simp, Mods.refl _ _⟩
  case round =>
    obtain ⟨k, m, hk, rfl, rfl, hm, hkm, hall, hmm⟩ := hrel
    have HALL := Lib.hid hall
    have HMM := Lib.hid hmm
    clear hall
    rcases Nat.lt_or_ge k P.length with hlt | hge
    · by_cases hroom : m ≤ 268435456
      · obtain ⟨p, hp⟩ : ∃ p, P[k]? = some p := ⟨_, List.getElem?_eq_getElem hlt⟩
        obtain ⟨⟨g, off, rfl, hrg⟩, hin⟩ := (H.out.mods hmm).at hp
        have HRG := Lib.hid hrg
        have hraw := HR.out p (List.mem_of_getElem? hp)
        have HP := Lib.hid hp
        obtain ⟨kind, s, t, vb, vc, B, C, num, vl, vm, L, M, text⟩ := p
        obtain ⟨hb, hc, hl, hM⟩ := hin
        obtain ⟨rs, rt, rb, rc, rl, rm, rx⟩ := hraw
        simp only at hb hc hl hM rs rt rb rc rl rm rx
        have HL := Lib.hid hl
        have HM := Lib.hid hM
        obtain ⟨Ab, cb, rfl, -⟩ := rd_slice hb
        obtain ⟨Ac, cc, rfl, -⟩ := rd_slice hc
        obtain ⟨Al, cl, rfl, -⟩ := hl
        obtain ⟨Am, cm, rfl, -⟩ := hM
        have hstore := run_store_new (P := Tryz.prog) wr zeroO (opV kind s t (.slice Ab B.length cb) (.slice Ac C.length cc) num (.slice Al L.length cl) (.slice Am M.length cm) text) 40 rfl opV_one
        unfold zeroO at hstore
        clear hrg hp hb hc hmm rl rm
        go_upto_region 6 with (refine wpList_load_mid rfl 40 _ rfl g (off + k * 33) rfl (opV kind s t (.slice Ab B.length cb) (.slice Ac C.length cc) num (.slice Al L.length cl) (.slice Am M.length cm) text).toList _ HRG.out Tryz.underlying40 rfl info40 ?_)
        clear hstore
        have B5 := Lib.hid (heap_alloc_new wr (.cells (opV kind s t (.slice Ab B.length cb) (.slice Ac C.length cc) num (.slice Al L.length cl) (.slice Am M.length cm) text) 40))
        have M5 := Lib.hid (HMM.out.alloc (.cells (opV kind s t (.slice Ab B.length cb) (.slice Ac C.length cc) num (.slice Al L.length cl) (.slice Am M.length cm) text) 40))
        have L5 := Lib.hid (HL.out.mods ((Mods.refl [] wr).alloc (.cells (opV kind s t (.slice Ab B.length cb) (.slice Ac C.length cc) num (.slice Al L.length cl) (.slice Am M.length cm) text) 40)))
        have X5 := Lib.hid (HM.out.mods ((Mods.refl [] wr).alloc (.cells (opV kind s t (.slice Ab B.length cb) (.slice Ac C.length cc) num (.slice Al L.length cl) (.slice Am M.length cm) text) 40)))
        generalize wr.alloc (.cells (opV kind s t (.slice Ab B.length cb) (.slice Ac C.length cc) num (.slice Al L.length cl) (.slice Am M.length cm) text) 40) = w5 at *
        generalize wr.heap.size = b5 at *
        have HWs := Lib.hid (fun w' => weight_any s w' rs)
        have HWt := Lib.hid (fun w' => weight_any t w' rt)
        have s0 : IntKind.i64.wrap ((m : Int) + 100) = (m : Int) + 100 := IntWalk.i64_in _ (by omega)
        have s1 : IntKind.i64.wrap ((m : Int) + 100 + (s.size : Int)) = (m : Int) + 100 + (s.size : Int) := IntWalk.i64_in _ (by omega)
        have s2 : IntKind.i64.wrap ((m : Int) + 100 + (s.size : Int) + (t.size : Int)) = (m : Int) + 100 + (s.size : Int) + (t.size : Int) := IntWalk.i64_in _ (by omega)
        have s3 : IntKind.i64.wrap ((m : Int) + 100 + (s.size : Int) + (t.size : Int) + (B.length : Int)) = (m : Int) + 100 + (s.size : Int) + (t.size : Int) + (B.length : Int) := IntWalk.i64_in _ (by omega)
        have s4 : IntKind.i64.wrap ((m : Int) + 100 + (s.size : Int) + (t.size : Int) + (B.length : Int) + (C.length : Int)) = (m : Int) + 100 + (s.size : Int) + (t.size : Int) + (B.length : Int) + (C.length : Int) := IntWalk.i64_in _ (by omega)
        have s5 : IntKind.i64.wrap ((m : Int) + 100 + (s.size : Int) + (t.size : Int) + (B.length : Int) + (C.length : Int) + (text.size : Int)) = (m : Int) + 100 + (s.size : Int) + (t.size : Int) + (B.length : Int) + (C.length : Int) + (text.size : Int) := IntWalk.i64_in _ (by omega)
        have CELLS := Lib.hid (fun (w' : World) (hw' : InC w5 w') => op_cells (hw'.heap B5.out (by simp)))
        refine wp_region_quiet (C := InC w5) (by kernel_rfl) (by kernel_rfl) (InC.drew w5) ?_
        dsimp only [List.toList_toArray]
        refine wpQuiet_step (fun K hK => ?_)
        go_simp
        refine ⟨_, fun _ _ => rfl, hK _ ?_⟩
        clear hK K
        refine wpQuiet_step (fun K hK => ?_)
        go_simp
        refine ⟨_, fun _ _ => rfl, hK _ ?_⟩
        clear hK K
        refine wpQuiet_step (fun K hK => ?_)
        go_simp
        refine ⟨_, fun _ _ => rfl, hK _ ?_⟩
        clear hK K
        refine wpQuiet_load_mid (by go_simp) 35 _ rfl b5 1 rfl (statV s) _ (fun w' hw' => op_s (hw'.heap B5.out (by simp))) Tryz.underlying35 rfl info35s ?_
        refine wpQuiet_step (fun K hK => ?_)
        go_simp
        refine ⟨_, fun w' hw' => (HWs.out w').mono fun _ _ hh => ⟨hh.1, Mods.trans hw' hh.2 (by simp)⟩, hK _ ?_⟩
        clear hK K
        refine wpQuiet_step (fun K hK => ?_)
        go_simp
        refine ⟨_, fun _ _ => rfl, hK _ ?_⟩
        clear hK K
        refine wpQuiet_step (fun K hK => ?_)
        go_simp
        refine ⟨_, fun _ _ => rfl, hK _ ?_⟩
        clear hK K
        refine wpQuiet_load_mid (by go_simp) 35 _ rfl b5 14 rfl (statV t) _ (fun w' hw' => op_t (hw'.heap B5.out (by simp))) Tryz.underlying35 rfl info35s ?_
        refine wpQuiet_step (fun K hK => ?_)
        go_simp
        refine ⟨_, fun w' hw' => (HWt.out w').mono fun _ _ hh => ⟨hh.1, Mods.trans hw' hh.2 (by simp)⟩, hK _ ?_⟩
        clear hK K
        refine wpQuiet_step (fun K hK => ?_)
        go_simp
        refine ⟨_, fun _ _ => rfl, hK _ ?_⟩
        clear hK K
        refine wpQuiet_step (fun K hK => ?_)
        go_simp
        refine ⟨_, fun _ _ => rfl, hK _ ?_⟩
        clear hK K
        refine wpQuiet_load_cell (by go_simp) 37 _ rfl ⟨b5, 27, none⟩ rfl (.slice Ab B.length cb) (fun w' hw' => by obtain ⟨-, -, -, -, -, -, -, -, -, -, -, -, -, -, -, -, -, -, -, -, -, -, -, -, -, -, -, x, -, -, -, -, -⟩ := op_cells (hw'.heap B5.out (by simp)); exact x) (fun w' => Tryz.isAgg37 w') ?_
        refine wpQuiet_step (fun K hK => ?_)
        go_simp
        refine ⟨_, fun _ _ => rfl, hK _ ?_⟩
        clear hK K
        refine wpQuiet_step (fun K hK => ?_)
        go_simp
        refine ⟨_, fun _ _ => rfl, hK _ ?_⟩
        clear hK K
        refine wpQuiet_step (fun K hK => ?_)
        go_simp
        refine ⟨_, fun _ _ => rfl, hK _ ?_⟩
        clear hK K
        refine wpQuiet_load_cell (by go_simp) 37 _ rfl ⟨b5, 28, none⟩ rfl (.slice Ac C.length cc) (fun w' hw' => by obtain ⟨-, -, -, -, -, -, -, -, -, -, -, -, -, -, -, -, -, -, -, -, -, -, -, -, -, -, -, -, x, -, -, -, -⟩ := op_cells (hw'.heap B5.out (by simp)); exact x) (fun w' => Tryz.isAgg37 w') ?_
        refine wpQuiet_step (fun K hK => ?_)
        go_simp
        refine ⟨_, fun _ _ => rfl, hK _ ?_⟩
        clear hK K
        refine wpQuiet_step (fun K hK => ?_)
        go_simp
        refine ⟨_, fun _ _ => rfl, hK _ ?_⟩
        clear hK K
        refine wpQuiet_step (fun K hK => ?_)
        go_simp
        refine ⟨_, fun _ _ => rfl, hK _ ?_⟩
        clear hK K
        refine wpQuiet_load_cell (by go_simp) 9 _ rfl ⟨b5, 32, none⟩ rfl (.string text) (fun w' hw' => by obtain ⟨-, -, -, -, -, -, -, -, -, -, -, -, -, -, -, -, -, -, -, -, -, -, -, -, -, -, -, -, -, -, -, -, x⟩ := op_cells (hw'.heap B5.out (by simp)); exact x) (fun w' => Tryz.isAgg9 w') ?_
        refine wpQuiet_step (fun K hK => ?_)
        go_simp
        refine ⟨_, fun _ _ => rfl, hK _ ?_⟩
        clear hK K
        refine wpQuiet_step (fun K hK => ?_)
        go_simp
        refine ⟨_, fun _ _ => rfl, hK _ ?_⟩
        clear hK K
        refine wpQuiet_step (fun K hK => ?_)
        go_simp
        refine ⟨_, fun _ _ => rfl, hK _ ?_⟩
        clear hK K
        refine wpQuiet_nil ?_
        intro w6 hw6
        have B6 := Lib.hid (hw6.heap B5.out (by simp))
        have M6 := Lib.hid (M5.out.trans hw6 (by simp))
        have HRp := HR.out _ (List.mem_of_getElem? HP.out)
        have HWl := Lib.hid (fun w' (hw' : InC w6 w') => weights2_any (w := w') L ((L5.out.mods hw6).mods hw') HRp.l)
        have HWm := Lib.hid (fun w' (hw' : InC w6 w') => weights2_any (w := w') M ((X5.out.mods hw6).mods hw') HRp.m)
        have hbl : wsum L 0 ≤ 600000268435456 := wsum_big L 0 HRp.l (by omega)
        have hbm : wsum M 0 ≤ 600000268435456 := wsum_big M 0 HRp.m (by omega)
        obtain ⟨z, hz⟩ : ∃ z : Nat, z = m + 100 + s.size + t.size + B.length + C.length + text.size := ⟨_, rfl⟩
        have hzi : (m : Int) + 100 + (s.size : Int) + (t.size : Int) + (B.length : Int) + (C.length : Int) + (text.size : Int) = (z : Int) := by omega
        rw [hzi]
        have HZ := Lib.hid hz
        have hzb : z ≤ 2000000000000000 := by omega
        have hws : 49 ≤ s.size := by unfold StatP.size; omega
        have hwt : 49 ≤ t.size := by unfold StatP.size; omega
        have hzm : m + 198 ≤ z := by omega
        have HTK : Hid (∀ x ∈ P.take (k + 1), x.weight ≤ z + wsum L 0 + wsum M 0) := Lib.hid (fun x hx => by
          rw [List.take_add_one, HP.out] at hx
          rcases List.mem_append.1 hx with hx | hx
          · have := HALL.out x hx
            omega
          · simp at hx
            subst hx
            simp only [StP.weight]
            omega)
        clear HRp B5 M5 hw6 s0 s1 s2 s3 s4 s5 hz hzi rs rt rb rc rx hws hwt CELLS HWs HWt
        generalize wsum L 0 = xl at *
        generalize wsum M 0 = xm at *
        have s0 : IntKind.i64.wrap ((z : Int) + (xl : Int)) = (z : Int) + (xl : Int) := IntWalk.i64_in _ (by omega)
        have s1 : IntKind.i64.wrap ((z : Int) + (xl : Int) + (xm : Int)) = (z : Int) + (xl : Int) + (xm : Int) := IntWalk.i64_in _ (by omega)
        go_upto_region 7 with fail
        refine wp_region_quiet (C := InC w6) (by kernel_rfl) (by kernel_rfl) (InC.drew w6) ?_
        dsimp only [List.toList_toArray]
        refine wpQuiet_step (fun K hK => ?_)
        go_simp
        refine ⟨_, fun _ _ => rfl, hK _ ?_⟩
        clear hK K
        refine wpQuiet_step (fun K hK => ?_)
        go_simp
        refine ⟨_, fun _ _ => rfl, hK _ ?_⟩
        clear hK K
        refine wpQuiet_load_cell (by go_simp) 38 _ rfl ⟨b5, 30, none⟩ rfl (.slice Al L.length cl) (fun w' hw' => by obtain ⟨-, -, -, -, -, -, -, -, -, -, -, -, -, -, -, -, -, -, -, -, -, -, -, -, -, -, -, -, -, -, x, -, -⟩ := op_cells (hw'.heap B6.out (by simp)); exact x) (fun w' => Tryz.isAgg38 w') ?_
        refine wpQuiet_step (fun K hK => ?_)
        go_simp
        refine ⟨_, fun w' hw' => (HWl.out w' hw').mono fun _ _ hh => ⟨hh.1, Mods.trans hw' hh.2 (by simp)⟩, hK _ ?_⟩
        clear hK K
        refine wpQuiet_step (fun K hK => ?_)
        go_simp
        refine ⟨_, fun _ _ => rfl, hK _ ?_⟩
        clear hK K
        refine wpQuiet_step (fun K hK => ?_)
        go_simp
        refine ⟨_, fun _ _ => rfl, hK _ ?_⟩
        clear hK K
        refine wpQuiet_load_cell (by go_simp) 38 _ rfl ⟨b5, 31, none⟩ rfl (.slice Am M.length cm) (fun w' hw' => by obtain ⟨-, -, -, -, -, -, -, -, -, -, -, -, -, -, -, -, -, -, -, -, -, -, -, -, -, -, -, -, -, -, -, x, -⟩ := op_cells (hw'.heap B6.out (by simp)); exact x) (fun w' => Tryz.isAgg38 w') ?_
        refine wpQuiet_step (fun K hK => ?_)
        go_simp
        refine ⟨_, fun w' hw' => (HWm.out w' hw').mono fun _ _ hh => ⟨hh.1, Mods.trans hw' hh.2 (by simp)⟩, hK _ ?_⟩
        clear hK K
        refine wpQuiet_step (fun K hK => ?_)
        go_simp
        refine ⟨_, fun _ _ => rfl, hK _ ?_⟩
        clear hK K
        refine wpQuiet_step (fun K hK => ?_)
        go_simp
        refine ⟨_, fun _ _ => rfl, hK _ ?_⟩
        clear hK K
        refine wpQuiet_nil ?_
        intro w7 hw7
        have HN : Hid (RelBe P w (.int .i64 ((z : Int) + (xl : Int) + (xm : Int))) (.int .i64 ((k : Int) + 1)) w7) := Lib.hid ⟨k + 1, z + xl + xm, by omega, rfl, by congr 1, by omega, by omega, HTK.out, M6.out.trans hw7 (by simp)⟩
        clear hw7 s0 s1
        go_wp2_with fail
        exact ⟨HN.out, by simp only [intOf]; omega⟩
      · clear hmm
        have q1 : decide ((268435456 : Int) < (m : Int)) = true := by simp; omega
        go_wp2_with fail
        go_ret
        exact ⟨true, rfl, (fun h => by cases h), HMM.out⟩
    · obtain rfl : k = P.length := by omega
      have HALL2 : Hid (∀ p ∈ P, p.weight ≤ m) := Lib.hid (fun p hp => HALL.out p (by rw [List.take_length]; exact hp))
      clear hmm
      go_wp2_with fail
      go_ret
      refine ⟨_, rfl, fun h => ?_, HMM.out⟩
      have hm2 : m ≤ 268435456 := by
        simp at h
        omega
      exact ⟨by omega, fun p hp => Nat.le_trans (HALL2.out p hp) hm2⟩
end Go.Proofs.YtnpokdbpmnkbjaaGreatDoor
