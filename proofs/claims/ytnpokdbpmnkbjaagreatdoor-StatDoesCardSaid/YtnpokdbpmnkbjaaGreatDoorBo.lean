/- The walks of the document's writer, on: Open, Text. | The walks of fill and letters: rows of bytes made one by one. | A step of a script (vergerlaw01.Op): its value; the walks of size and lays. | Writers as pieces of memory; the law's own steps: numbers, raw, opens. | The Book: lists that came out; the walk of owns. -/
import Derived.Test.YtnpokdbpmnkbjaaGreatDoorVw
import Derived.Test.YtnpokdbpmnkbjaaGreatDoorCg
import Derived.Test.YtnpokdbpmnkbjaaGreatDoorWa
import Derived.Test.YtnpokdbpmnkbjaaGreatDoorTo
import Derived.Test.YtnpokdbpmnkbjaaGreatDoorWu
import Derived.Test.YtnpokdbpmnkbjaaGreatDoorPc
namespace Go.Proofs.YtnpokdbpmnkbjaaGreatDoor
open Go.RowKit Me

theorem le_zero2 : le 0 2 = [0, 0] := rfl
set_option maxRecDepth 100000 in
set_option maxHeartbeats 1000000 in
theorem vopen_any {a : Nat} {S : WSt} {vb vo : Value} {w : World} (h : IsW 131 w a S vb vo) :
    Calls Tryz.prog 101 #[.pointer (some ⟨a, 0, none⟩)] w fun e w' => e = .returned (.int .i64 (S.opn.2 : Int)) ∧ WPost 131 w a vb vo S.opn.1 w' := by
  obtain ⟨c0, c1, c2, c3, f1, f2, f3⟩ := cell4 h.cells
  obtain ⟨A, c, hvb, hlc, hcm⟩ := ownsRow_slice h.b
  subst hvb
  have hl1 := h.wf.limit
  have hl2 := h.wf.bytes
  have hl3 := h.wf.many
  have HP := Lib.hid (vu16_any h 0 (by omega))
  have hop : S.opn = if (S.put [0, 0]).err ≠ 0 then (S.put [0, 0], 0) else ({ S.put [0, 0] with opens := S.opens ++ [S.bytes.length] }, S.bytes.length) := rfl
  have hpo : (S.put [0, 0]).opens = S.opens := by
    unfold WSt.put
    repeat' split
    all_goals rfl
  have hpl : (S.put [0, 0]).err = 0 → (S.put [0, 0]).bytes.length = S.bytes.length + 2 := by
    unfold WSt.put
    intro h
    split at h
    · rename_i h0
      exact absurd h h0
    · split at h
      · simp at h
      · rename_i h1 h2
        rw [if_neg h1, if_neg h2]
        simp
  rw [le_zero2] at HP
  rw [hop]
  have hwf := h.wf.put [0, 0]
  generalize S.put [0, 0] = S1 at *
  have HWF := Lib.hid hwf
  have HPO := Lib.hid hpo
  have hoc : S.opens.length ≤ 100000000 := by omega
  clear h c0 c2 c3 f1 f2 f3 hop hwf hpo
  by_cases he : S1.err = 0
  · rw [if_neg (by simp [he])]
    have HE := Lib.hid he
    have HPL := Lib.hid (hpl he)
    clear he hpl
    go_enter Tryz.func101, Tryz.ntmps101
    go_wp2_with fail
    refine HP.out.mono ?_; rintro e w1 ⟨rfl, hp⟩
    obtain ⟨vb1, vo1, h1, hm1, hk1⟩ := hp
    have H1 := Lib.hid h1
    have HM1 := Lib.hid hm1
    have HK1 := Lib.hid hk1
    obtain ⟨c0, c1, c2, c3, f1, f2, f3⟩ := cell4 h1.cells
    rw [HE.out] at c3
    obtain ⟨Ao, co, hvo, hlo, hco⟩ := ownsRow_slice h1.o
    subst hvo
    obtain ⟨i1, hj, hy0, hy1, hy2⟩ := info_parts info3
    clear h1 hm1 hk1 c0 c1 f1 f3
    go_wp2_with (at_builtin; go_must (refine wpList_app _ rfl _ _ 62 62 rfl 0 3 i1 (.int .i64 0) 1 8 Tryz.underlying62 hj hy0 hy1 hy2 rfl _ _ _ rfl (H1.out.o.alloc _) _ 1 [.int .i64 (S.bytes.length : Int)] rfl ?d1 ?d2 ?d3 ?d4 ?_))
    case d1 => exact src_one Tryz.underlying62 _ _ _ rfl
    case d2 => rw [HPO.out]; unfold maxLen; omega
    case d3 => rw [HPO.out]; omega
    case d4 => exact Nat.zero_le _
    intro v2 w2 hown hgrow hat
    obtain ⟨_, _, _, d2', g2'⟩ := behind_grow (H1.out.alloc _) hgrow (wrow (H1.out.alloc (.cells #[] 0)) (by decide)).2.1
    obtain ⟨A3, c3', rfl⟩ := own_ctor hown
    have hx := ((H1.out.alloc _).push (by decide) hgrow hown (by simpa using hat) (by have := HPL.out; omega) (by have := HPL.out; rw [HPO.out]; omega))
    have HX := Lib.hid hx.1
    have HM2 := Lib.hid (HM1.out.trans (((Mods.refl [] _).alloc _).mono (G := foot a _ _) (by simp) |>.trans hx.2 (fun b hb => Or.inl hb)) HK1.out)
    have HA2 := Lib.hid hat
    clear hx hown hgrow hat
    go_wp2_with fail
    go_ret
    refine ⟨rfl, _, _, by rw [← HPO.out]; exact HX.out, HM2.out, fun b hb => ?_⟩
    rcases mem_foot.1 hb with rfl | hb | hb
    · exact HK1.out _ (mem_foot.2 (Or.inl rfl))
    · exact HK1.out _ (mem_foot.2 (Or.inr (Or.inl hb)))
    · rcases HA2.out with e | e
      · exact HK1.out _ (mem_foot.2 (Or.inr (Or.inr (by rw [← e]; exact hb))))
      · rw [e] at hb
        obtain rfl := Option.some.inj hb
        exact Or.inr (by have := HM1.out.size; simp; omega)
  · rw [if_pos he]
    have he' : ((S1.err : Int) != 0) = true := by rw [bne_iff_ne]; omega
    clear hpl
    go_enter Tryz.func101, Tryz.ntmps101
    go_wp2_with fail
    refine HP.out.mono ?_; rintro e w1 ⟨rfl, hp⟩
    obtain ⟨vb1, vo1, h1, hm1, hk1⟩ := hp
    have HQ : Hid (WPost 131 w a (.slice A S.bytes.length c) vo S1 w1) := Lib.hid ⟨vb1, vo1, h1, hm1, hk1⟩
    obtain ⟨c0, c1, c2, c3, f1, f2, f3⟩ := cell4 h1.cells
    clear h1 hm1 hk1 c0 c1 c2 f1 f2 f3
    go_wp2_with fail
    go_ret
    exact ⟨rfl, HQ.out⟩
def RelText (w : World) (s : ByteArray) (v i : Value) (wr : World) : Prop :=
  ∃ j : Nat, j ≤ s.size ∧ i = .int .i64 j ∧ Grew w.heap.size w (.slice none 0 0) (le s.size 2 ++ s.data.toList.take j) v wr
set_option maxRecDepth 100000 in
set_option maxHeartbeats 1000000 in
theorem vtext_put {a : Nat} {S : WSt} {vb vo : Value} {w : World} (h : IsW 131 w a S vb vo) (s : ByteArray) (he : S.err = 0) (h6 : s.size ≤ 65535) (hg : Tx.good s.data.toList = true) :
    Calls Tryz.prog 105 #[.pointer (some ⟨a, 0, none⟩), .string s] w fun e w' => e = .returned (.tuple #[]) ∧ WPost 131 w a vb vo (S.put (le s.size 2 ++ s.data.toList)) w' := by
  obtain ⟨c0, c1, c2, c3, f1, f2, f3⟩ := cell4 h.cells
  rw [he] at c3
  have H := Lib.hid h
  have hgd := rgood_any s w (by omega)
  rw [hg] at hgd
  have HG := Lib.hid hgd
  obtain ⟨i0, hi, hz0, hz1, hz2⟩ := info_parts info5
  clear h he hg hgd c0 c1 c2 f1 f2 f3
  go_enter Tryz.func105, Tryz.ntmps105
  go_wp2_with fail
  refine HG.out.mono ?_; rintro e w0 ⟨rfl, rfl⟩
  go_wp2_with (at_builtin; go_must (refine wpList_app _ rfl _ _ 37 37 rfl w.heap.size 5 i0 (.int .u8 0) 1 1 Tryz.underlying37 hi hz0 hz1 hz2 rfl (.slice none 0 0) 0 [] rfl (World.ownsRow_nil _ _ _ _) _ 2 [.int .u8 ((s.size : Int) % 256), .int .u8 ((s.size : Int) / 256)] rfl ?c1 ?c2 ?c3 ?c4 ?_))
  case c1 => exact src_lit Tryz.underlying37 w [.int .u8 ((s.size : Int) % 256), .int .u8 ((s.size : Int) / 256)] 5 2 rfl (by intro u hu; simp at hu; rcases hu with rfl | rfl <;> rfl)
  case c2 => unfold maxLen; omega
  case c3 => omega
  case c4 => simp
  intro v1 w1 hown hgrow hat
  have hG : Grew w.heap.size w (.slice none 0 0) ([] ++ le s.size 2) v1 w1 := (Grew.refl (World.ownsRow_nil w w.heap.size 5 1)).app (L := []) _ (m := 2) (by simpa using hown) (bs := le s.size 2) (le_cells _ h6) (le_length _ _).symm hgrow (by simpa using hat)
  have HG1 := Lib.hid hG
  obtain ⟨A1, c1, rfl⟩ := own_ctor hown
  clear hG hown hgrow hat
  go_wp2_with fail
  go_loopw [4, 5] (fun v i wr => RelText w s v i wr) (fun _ i _ => s.size - (intOf i).toNat)
  case atStart => exact ⟨0, by omega, rfl, by simpa using HG1.out⟩
  case round =>
    obtain ⟨j, hj, rfl, hg⟩ := hrel
    have HG2 := Lib.hid hg
    have hlen : (le s.size 2 ++ s.data.toList.take j).length = j + 2 := by rw [List.length_append, le_length, List.length_take, size_list]; omega
    have HSN := Lib.hid (fun (h : j < s.data.toList.length) => show s.data.toList.take (j + 1) = s.data.toList.take j ++ [s.data.toList[j]] from List.take_succ_eq_append_getElem h)
    generalize hM : le s.size 2 ++ s.data.toList.take j = M at *
    have HM := Lib.hid hM
    obtain ⟨A, c, rfl⟩ := own_ctor hg.1
    have hsz := HG2.out.2.1.size
    have HL := Lib.hid hlen
    clear hg hM
    rw [hlen]
    clear hlen
    rcases Nat.lt_or_ge j s.size with hlt | hge
    · have hN := Lib.hid (HSN.out (by rw [size_list]; exact hlt))
      have hqe : byteV (s.data.toList[j]'(by rw [size_list]; exact hlt)) = .int .u8 ((s[j]'hlt).toNat : Int) := rfl
      go_wp2_with (at_builtin; go_must (refine wpList_app _ rfl _ _ 37 37 rfl w.heap.size 5 i0 (.int .u8 0) 1 1 Tryz.underlying37 hi hz0 hz1 hz2 rfl _ _ _ rfl (by have h := HG2.out.1.alloc (.cells #[.int .u8 ((s[j]'hlt).toNat : Int)] 5); rw [HL.out] at h; exact h) _ 1 [.int .u8 ((s[j]'hlt).toNat : Int)] rfl ?c1 ?c2 ?c3 ?c4 ?_))
      case c1 => exact src_one Tryz.underlying37 _ _ _ rfl
      case c2 => unfold maxLen; omega
      case c3 => omega
      case c4 => simp; omega
      intro v1 w1 hown hgrow hat
      have hG := HG2.out.app _ (by rw [HL.out]; exact hown) (bs := [s.data.toList[j]'(by rw [size_list]; exact hlt)]) (by rw [List.map_cons, List.map_nil, hqe]) rfl (by rw [HL.out]; exact hgrow) (by rw [HL.out]; simpa using hat)
      rw [← HM.out, List.append_assoc, ← hN.out] at hG
      have HR : Hid (RelText w s v1 (.int .i64 ((j : Int) + 1)) w1) := Lib.hid ⟨j + 1, by omega, rfl, hG⟩
      obtain ⟨A1, c1, rfl⟩ := own_ctor hown
      clear hG hown hgrow hat hqe
      go_wp2_with fail
      exact ⟨HR.out, by simp [intOf]; omega⟩
    · obtain rfl : j = s.size := by omega
      have E : Hid (le s.size 2 ++ s.data.toList = M) := Lib.hid (by rw [← HM.out, ← size_list, List.take_length])
      have hr := Rd.of_own HG2.out.1
      rw [HL.out] at hr
      have HP := Lib.hid (((WPost.start H.out).still (show Mods [] w wr from HG2.out.2.1)).call fun vb vo hi => vraw_any hi M hr)
      clear hr
      go_wp2_with fail
      refine HP.out.mono ?_; rintro e w2 ⟨rfl, hp⟩
      have HQ2 := Lib.hid hp
      clear hp
      go_wp2_with fail
      go_end0
      refine ⟨rfl, ?_⟩
      rw [E.out]
      exact HQ2.out
set_option maxRecDepth 100000 in
set_option maxHeartbeats 400000 in
/-- Text. -/
theorem vtext_any {a : Nat} {S : WSt} {vb vo : Value} {w : World} (h : IsW 131 w a S vb vo) (s : ByteArray) (hs : s.size ≤ 1099511627776) :
    Calls Tryz.prog 105 #[.pointer (some ⟨a, 0, none⟩), .string s] w fun e w' => e = .returned (.tuple #[]) ∧ WPost 131 w a vb vo (S.text s.data.toList) w' := by
  unfold WSt.text
  by_cases he : S.err = 0
  · rw [if_neg (by omega)]
    obtain ⟨c0, c1, c2, c3, f1, f2, f3⟩ := cell4 h.cells
    rw [he] at c3
    by_cases h6 : 65535 < s.size
    · rw [if_pos (by rw [size_list]; exact h6)]
      have HW := Lib.hid (h.wrong (by decide) 13 (by omega))
      have HM := Lib.hid ((Mods.refl [a] w).setCell (p := ⟨a, 3, none⟩) (Or.inl (by simp)) (.int .i64 ((13 : Nat) : Int)))
      clear h he c0 c1 c2 f1 f2
      go_enter Tryz.func105, Tryz.ntmps105
      go_wp2_with fail
      refine bodyPost_ret (results_none rfl _ _ _) rfl ?_
      exact ⟨rfl, WPost.same HW.out HM.out (by simp [foot])⟩
    · rw [if_neg (by rw [size_list]; exact h6)]
      by_cases hg : Tx.good s.data.toList = false
      · rw [if_pos hg]
        have hgd := rgood_any s w (by omega)
        rw [hg] at hgd
        have HG := Lib.hid hgd
        have HW := Lib.hid (h.wrong (by decide) 12 (by omega))
        have HM := Lib.hid ((Mods.refl [a] w).setCell (p := ⟨a, 3, none⟩) (Or.inl (by simp)) (.int .i64 ((12 : Nat) : Int)))
        clear h he c0 c1 c2 f1 f2 hg hgd
        go_enter Tryz.func105, Tryz.ntmps105
        go_wp2_with fail
        refine HG.out.mono ?_; rintro e w0 ⟨rfl, rfl⟩
        go_wp2_with fail
        refine bodyPost_ret (results_none rfl _ _ _) rfl ?_
        exact ⟨rfl, WPost.same HW.out HM.out (by simp [foot])⟩
      · rw [if_neg hg, size_list]
        exact vtext_put h s he (by omega) (by simpa using hg)
  · rw [if_pos he]
    obtain ⟨c0, c1, c2, c3, f1, f2, f3⟩ := cell4 h.cells
    have he' : ((S.err : Int) != 0) = true := by rw [bne_iff_ne]; omega
    have H := Lib.hid h
    clear h he c0 c1 c2 f1 f2 f3
    go_enter Tryz.func105, Tryz.ntmps105
    go_wp2_with fail
    refine bodyPost_ret (results_none rfl _ _ _) rfl ?_
    exact ⟨rfl, WPost.same H.out (Mods.refl [] _) (by simp)⟩
end Go.Proofs.YtnpokdbpmnkbjaaGreatDoor
namespace Go.Proofs.YtnpokdbpmnkbjaaGreatDoor
open Go.RowKit Me

/-- The letters of a text: its first two thousand bytes, each as one of 1 .. 127. -/
def lettersL (l : List UInt8) : List UInt8 := (l.take 2000).map fun b => UInt8.ofNat (b.toNat % 127 + 1)
end Go.Proofs.YtnpokdbpmnkbjaaGreatDoor
namespace Go.Proofs.YtnpokdbpmnkbjaaGreatDoor
open Go.RowKit Me

structure OpP where
  who : Int
  kind : Int
  n : Nat
  k : Int
  b : List UInt8
  s : ByteArray
structure OpP.Fits (o : OpP) : Prop where
  who : -9223372036854775808 ≤ o.who ∧ o.who ≤ 9223372036854775807
  kind : -9223372036854775808 ≤ o.kind ∧ o.kind ≤ 9223372036854775807
  n : o.n < 18446744073709551616
  k : -9223372036854775808 ≤ o.k ∧ o.k ≤ 9223372036854775807
  b : o.b.length ≤ 140737488355328
  s : o.s.size ≤ 140737488355328
def OpP.lets (o : OpP) : List UInt8 := lettersL o.s.data.toList
def OpP.size (o : OpP) : Nat :=
  if o.kind = 1 then 1 else if o.kind = 2 then 2 else if o.kind = 7 then 2 else if o.kind = 3 then 4 else if o.kind = 4 then 8 else if o.kind = 5 then o.b.length else if o.kind = 6 then 2 + o.lets.length else 0

end Go.Proofs.YtnpokdbpmnkbjaaGreatDoor
namespace Go.Proofs.YtnpokdbpmnkbjaaGreatDoor
open Go.RowKit Me

def Wr (T : TypeId) (a : Nat) (S : WSt) : Pc where
  A := fun w F => ∃ vb vo, IsW T w a S vb vo ∧ F = foot a vb vo
  mods := by
    rintro w w' F G ⟨vb, vo, h, rfl⟩ hm hn
    exact ⟨vb, vo, h.mods hm hn, rfl⟩
  lt := by
    rintro w F ⟨vb, vo, h, rfl⟩ k hk
    exact foot_lt h k hk
/-- The two writers, side by side. -/
def W2 (a c : Nat) (S V : WSt) : Pc := (Wr 129 a S).star (Wr 131 c V)
theorem Wr.of {T : TypeId} {w : World} {a : Nat} {S : WSt} {vb vo : Value} {F : List Nat} {w0 : World} (h : IsW T w a S vb vo) (hm : Mods F w0 w) (hF : ∀ k ∈ foot a vb vo, k ∈ F ∨ w0.heap.size ≤ k) : Post (Wr T a S) w0 F w := ⟨_, ⟨vb, vo, h, rfl⟩, hm, hF⟩
section
variable {T : TypeId} {w w0 : World} {a : Nat} {S S' : WSt} {f : FuncId} {args : Array Value} {x : Value} {F : List Nat} {r : Pc}
theorem Wr.turn {w' : World} (hc : ∀ vb vo, IsW T w a S vb vo → WPost T w a vb vo S' w') : ∀ F1, (Wr T a S).A w F1 → Post (Wr T a S') w F1 w' := by
  rintro F1 ⟨vb, vo, h, rfl⟩
  obtain ⟨vb', vo', h1, h2, h3⟩ := hc vb vo h
  exact Wr.of h1 h2 h3
theorem Wr.call (hc : ∀ vb vo, IsW T w a S vb vo → Calls Tryz.prog f args w fun e w' => e = .returned x ∧ WPost T w a vb vo S' w') :
    ∀ F1, (Wr T a S).A w F1 → Calls Tryz.prog f args w fun e w' => e = .returned x ∧ Post (Wr T a S') w F1 w' := by
  rintro F1 ⟨vb, vo, h, rfl⟩
  refine (hc vb vo h).mono fun e w' hh => ⟨hh.1, ?_⟩
  obtain ⟨vb', vo', h1, h2, h3⟩ := hh.2
  exact Wr.of h1 h2 h3
/-- A call on the front piece, a writer. -/
theorem Me.Post.wr (h : Post ((Wr T a S).star r) w0 F w) (hc : ∀ vb vo, IsW T w a S vb vo → Calls Tryz.prog f args w fun e w' => e = .returned x ∧ WPost T w a vb vo S' w') :
    Calls Tryz.prog f args w fun e w' => e = .returned x ∧ Post ((Wr T a S').star r) w0 F w' := h.call (Wr.call hc)
end
section
variable {w w0 : World} {a c : Nat} {S S1 S' : WSt} {f g : FuncId} {args : Array Value} {x : Value} {F : List Nat} {r : Pc}
end
end Go.Proofs.YtnpokdbpmnkbjaaGreatDoor
namespace Go.Proofs.YtnpokdbpmnkbjaaGreatDoor
open Go.RowKit Me

namespace Me
theorem row_turn {e : TypeId} {size : Nat} {v v' : Value} {n n' : Nat} {xs xs' : List Value} {w w' : World} {o : Obj} (hown : w'.ownsRow 0 e size v' n' xs') (hg : (w.alloc o).grownBy w' v.ownBlock) (hat : v'.ownBlock = v.ownBlock ∨ v'.ownBlock = some (w.heap.size + 1)) :
    ∀ F1, (Pc.row e size v n xs).A w F1 → Post (Pc.row e size v' n' xs') w F1 w' := by
  rintro F1 ⟨_, rfl⟩
  refine ⟨_, ⟨hown, rfl⟩, ((Mods.refl _ _).alloc _).grown hg (fun b hb => Or.inl (by rw [hb]; simp)), fun k hk => ?_⟩
  rcases hat with h | h
  · rw [h] at hk
    exact Or.inl hk
  · rw [h] at hk
    simp at hk
    omega
theorem blk_turn {b i : Nat} {cs : Array Value} {t : TypeId} {w : World} (u : Value) : ∀ F1, (Pc.blk b (.cells cs t)).A w F1 → Post (Pc.blk b (.cells (cs.setIfInBounds i u) t)) w F1 (w.setCell ⟨b, i, none⟩ u) := by
  rintro F1 ⟨h, rfl⟩
  exact ⟨[b], ⟨by rw [heap_setCell_same _ _ _ _ _ _ h], rfl⟩, (Mods.refl _ _).setCell (p := ⟨b, i, none⟩) (Or.inl (by simp)) u, fun _ hk => Or.inl hk⟩
/-- The third to the front. -/
theorem Pc.Ent.at3 (p q r s : Pc) : Pc.Ent (p.star (q.star (r.star s))) (r.star (p.star (q.star s))) := ((Pc.Ent.refl p).mono (Pc.Ent.swap q r s)).trans (Pc.Ent.swap p r _)
theorem Post.rowAt {p : Pc} {w0 w : World} {F : List Nat} {e : TypeId} {size : Nat} {v : Value} {n : Nat} {xs : List Value} (h : Post p w0 F w) (hp : Pc.Ent p (Pc.row e size v n xs)) : w.ownsRow 0 e size v n xs := by
  obtain ⟨F1, h1, _⟩ := h.ent hp
  exact h1.1
end Me

def rowOf (v : Value) (bs : List UInt8) : Pc := Pc.row 5 1 v bs.length (bs.map byteV)
end Go.Proofs.YtnpokdbpmnkbjaaGreatDoor
