/- vergerref02's num: a number onto a row of bytes. | The walks of the document's writer (vergerref01.Writer): each is the plain writer's. (Printed by wip/bin/genvw.py.) -/
import Derived.Test.YtnpokdbpmnkbjaaGreatDoorWa
import Derived.Test.YtnpokdbpmnkbjaaGreatDoorWu
namespace Go.Proofs.YtnpokdbpmnkbjaaGreatDoor
open Go.RowKit Me

/-- A row of bytes of one's own has gone on from v in w: it bears L now. -/
def Grew (B : Nat) (w : World) (v : Value) (L : List UInt8) (v' : Value) (w' : World) : Prop :=
  w'.ownsRow B 5 1 v' L.length (L.map byteV) ∧ Mods v.ownBlock.toList w w' ∧ (v'.ownBlock = v.ownBlock ∨ ∃ k, v'.ownBlock = some k ∧ w.heap.size ≤ k)
theorem Grew.refl {B : Nat} {w : World} {v : Value} {L : List UInt8} (h : w.ownsRow B 5 1 v L.length (L.map byteV)) : Grew B w v L v w := ⟨h, Mods.refl _ _, Or.inl rfl⟩
theorem Grew.trans {B : Nat} {w w1 w2 : World} {v v1 v2 : Value} {L M : List UInt8} (h : Grew B w v L v1 w1) (k : Grew B w1 v1 M v2 w2) : Grew B w v M v2 w2 := by
  obtain ⟨h1, h2, h3⟩ := h
  obtain ⟨k1, k2, k3⟩ := k
  refine ⟨k1, h2.trans k2 (fun b hb => ?_), ?_⟩
  · rcases h3 with e | ⟨j, e, hj⟩
    · rw [e] at hb
      exact Or.inl hb
    · rw [e] at hb
      simp at hb
      subst hb
      exact Or.inr hj
  · rcases k3 with e | ⟨j, e, hj⟩
    · rw [e]
      exact h3
    · exact Or.inr ⟨j, e, Nat.le_trans h2.size hj⟩
/-- One append more, behind a new block. -/
theorem Grew.app {B : Nat} {w w1 w2 : World} {v v1 v2 : Value} {L bs : List UInt8} {m : Nat} {news : List Value} (h : Grew B w v L v1 w1) (o : Obj) (hown : w2.ownsRow B 5 1 v2 (L.length + m) (L.map byteV ++ news)) (hn : news = bs.map byteV) (hm : m = bs.length)
    (hg : (w1.alloc o).grownBy w2 v1.ownBlock) (h2 : v2.ownBlock = v1.ownBlock ∨ v2.ownBlock = some (w1.heap.size + 1)) : Grew B w v (L ++ bs) v2 w2 := by
  subst hn
  subst hm
  refine h.trans (M := L ++ bs) ⟨by simpa using hown, ((Mods.refl _ _).alloc o).grown hg (fun b hb => Or.inl (by rw [hb]; simp)), ?_⟩
  rcases h2 with e | e
  · exact Or.inl e
  · exact Or.inr ⟨_, e, by omega⟩
theorem Grew.app0 {B : Nat} {w w1 w2 : World} {v v1 v2 : Value} {L bs : List UInt8} {m : Nat} {news : List Value} (h : Grew B w v L v1 w1) (hown : w2.ownsRow B 5 1 v2 (L.length + m) (L.map byteV ++ news)) (hn : news = bs.map byteV) (hm : m = bs.length)
    (hg : w1.grownBy w2 v1.ownBlock) (h2 : v2.ownBlock = v1.ownBlock ∨ v2.ownBlock = some w1.heap.size) : Grew B w v (L ++ bs) v2 w2 := by
  subst hn
  subst hm
  refine h.trans (M := L ++ bs) ⟨by simpa using hown, (Mods.refl _ _).grown hg (fun b hb => Or.inl (by rw [hb]; simp)), ?_⟩
  rcases h2 with e | e
  · exact Or.inl e
  · exact Or.inr ⟨_, e, by omega⟩
def RelNum (B : Nat) (w : World) (v : Value) (L : List UInt8) (n k : Nat) (v' x i : Value) (wr : World) : Prop :=
  ∃ j q : Nat, j ≤ k ∧ i = .int .i64 j ∧ x = .int .u64 (q : Int) ∧ q = n / 256 ^ j ∧ Grew B w v (L ++ le n j) v' wr
def NumPost (B : Nat) (w : World) (v : Value) (L : List UInt8) (e : Ending) (w' : World) : Prop := ∃ v', e = .returned v' ∧ Grew B w v L v' w'
set_option maxRecDepth 100000 in
set_option maxHeartbeats 1000000 in
theorem num_any {B : Nat} {w : World} {v : Value} (L : List UInt8) (hv : w.ownsRow B 5 1 v L.length (L.map byteV)) (hB : B ≤ w.heap.size) (n k : Nat) (hk : k ≤ 8) (hL : L.length ≤ 100000000) (hn : n < 18446744073709551616) :
    Calls Tryz.prog 74 #[v, .int .u64 (n : Int), .int .i64 (k : Int)] w (NumPost B w v (L ++ le n k)) := by
  have H0 := Lib.hid (Grew.refl hv)
  have HN := Lib.hid hn
  clear hv hn
  obtain ⟨i0, hi, hz0, hz1, hz2⟩ := info_parts info5
  go_enter Tryz.func74, Tryz.ntmps74
  go_wp2_with fail
  go_loopw [0, 1, 7] (fun v' x i wr => RelNum B w v L n k v' x i wr) (fun _ _ i _ => k - (intOf i).toNat)
  case atStart => exact ⟨0, n, by omega, rfl, rfl, by simp, by simpa [le] using H0.out⟩
  case round =>
    obtain ⟨j, q, hj, rfl, rfl, hq, hg⟩ := hrel
    have HQ := Lib.hid hq
    have HG := Lib.hid hg
    have hqn : q < 18446744073709551616 := Nat.lt_of_le_of_lt (by rw [hq]; exact Nat.div_le_self _ _) HN.out
    have hlen : (L ++ le n j).length ≤ 100000008 := by rw [List.length_append, le_length]; omega
    generalize hM : L ++ le n j = M at *
    have HM := Lib.hid hM
    obtain ⟨A, c, rfl⟩ := own_ctor hg.1
    clear hg hq hM
    have hsz := HG.out.2.1.size
    have HQN := Lib.hid hqn
    clear hqn
    rcases Nat.lt_or_ge j k with hlt | hge
    · go_wp2_with (at_builtin; go_must (refine wpList_app _ rfl _ _ 37 37 rfl B 5 i0 (.int .u8 0) 1 1 Tryz.underlying37 hi hz0 hz1 hz2 rfl _ _ _ rfl (HG.out.1.alloc _) _ 1 [.int .u8 ((q : Int) % 256)] rfl ?c1 ?c2 ?c3 ?c4 ?_))
      case c1 => exact src_one Tryz.underlying37 _ _ _ rfl
      case c2 => unfold maxLen; omega
      case c3 => omega
      case c4 => simp; omega
      intro v1 w1 hown hgrow hat
      have hG := HG.out.app _ hown (bs := [UInt8.ofNat q]) (by simp [byteV_mod]) rfl hgrow (by simpa using hat)
      rw [← HM.out, List.append_assoc, HQ.out, ← le_snoc] at hG
      have HG1 := Lib.hid hG
      have HR : Hid (RelNum B w v L n k v1 (.int .u64 (IntKind.u64.wrap ((q : Int) / 256))) (.int .i64 ((j : Int) + 1)) w1) := Lib.hid ⟨j + 1, q / 256, by omega, rfl, by rw [IntKind.wrap_u64]; have := HQN.out; congr 1; omega, by rw [HQ.out, Nat.div_div_eq_div_mul, ← Nat.pow_succ], hG⟩
      obtain ⟨A1, c1, rfl⟩ := own_ctor hG.1
      clear hG hown hgrow hat
      go_wp2_with fail
      exact ⟨HR.out, by simp [intOf]; omega⟩
    · obtain rfl : j = k := by omega
      go_wp2_with fail
      go_ret
      refine ⟨_, rfl, ?_⟩
      rw [HM.out]
      exact HG.out
end Go.Proofs.YtnpokdbpmnkbjaaGreatDoor
namespace Go.Proofs.YtnpokdbpmnkbjaaGreatDoor
open Go.RowKit Me
theorem vnew_bad (l : Int) (w : World) (h : l < 0 ∨ 16777216 < l) :
    Calls Tryz.prog 49 #[.int .i64 l] w fun e w' => e = .returned (.tuple #[.pointer none, .int .i64 1]) ∧ w = w' := by
  rcases h with h | h
  · go_enter Tryz.func49, Tryz.ntmps49
    go_wp2_with fail
    go_ret2
    exact ⟨rfl, rfl⟩
  · have h' : ¬ l < 0 := by omega
    go_enter Tryz.func49, Tryz.ntmps49
    go_wp2_with fail
    go_ret2
    exact ⟨rfl, rfl⟩
theorem vnew_ok (l : Nat) (w : World) (hl : l ≤ 16777216) :
    Calls Tryz.prog 49 #[.int .i64 (l : Int)] w fun e w' => e = .returned (.tuple #[.pointer (some ⟨w.heap.size, 0, none⟩), .int .i64 0]) ∧ IsW 131 w' w.heap.size (WSt.new l) (.slice none 0 0) (.slice none 0 0) ∧ Mods [] w w' := by
  have HI := Lib.hid (isW_new 131 l w hl)
  go_enter Tryz.func49, Tryz.ntmps49
  go_wp2_with fail
  go_ret2
  exact ⟨rfl, HI.out, (Mods.refl _ _).alloc _⟩

/-- Done, of a writer that is wrong, or has a part open. -/
theorem vdone_wrong {a : Nat} {S : WSt} {vb vo : Value} {w : World} (h : IsW 131 w a S vb vo) (he : S.err ≠ 0) :
    Calls Tryz.prog 58 #[.pointer (some ⟨a, 0, none⟩)] w fun e w' => e = .returned (.tuple #[.slice none 0 0, .int .i64 (S.err : Int)]) ∧ Mods [] w w' := by
  obtain ⟨c0, c1, c2, c3, f1, f2, f3⟩ := cell4 h.cells
  have he' : ((S.err : Int) != 0) = true := by rw [bne_iff_ne]; omega
  clear he h c0 c1 c2 f1 f2 f3
  go_enter Tryz.func58, Tryz.ntmps58
  go_wp2_with fail
  go_quiet (fail)
  go_wp2_with fail
  go_ret2
  exact ⟨rfl, (Mods.refl _ _).drewN _⟩
theorem vdone_open {a : Nat} {S : WSt} {vb vo : Value} {w : World} (h : IsW 131 w a S vb vo) (he : S.err = 0) (ho : S.opens ≠ []) :
    Calls Tryz.prog 58 #[.pointer (some ⟨a, 0, none⟩)] w fun e w' => e = .returned (.tuple #[.slice none 0 0, .int .i64 1]) ∧ w = w' := by
  obtain ⟨c0, c1, c2, c3, f1, f2, f3⟩ := cell4 h.cells
  obtain ⟨A, c, rfl, hlc, hcm⟩ := ownsRow_slice h.o
  have hp := List.length_pos_iff.2 ho
  rw [he] at c3
  clear he h c0 c1 f1 f2 f3 ho
  go_enter Tryz.func58, Tryz.ntmps58
  go_wp2_with fail
  go_ret2
  exact ⟨rfl, rfl⟩
set_option maxRecDepth 100000 in
set_option maxHeartbeats 400000 in
theorem vdone_right {a : Nat} {S : WSt} {vb vo : Value} {w : World} (h : IsW 131 w a S vb vo) (he : S.err = 0) (ho : S.opens = []) :
    Calls Tryz.prog 58 #[.pointer (some ⟨a, 0, none⟩)] w fun e w' => ∃ v, e = .returned (.tuple #[v, .int .i64 0]) ∧ w'.ownsRow w.heap.size 5 1 v S.bytes.length (S.bytes.map byteV) ∧ Mods [] w w' := by
  obtain ⟨c0, c1, c2, c3, f1, f2, f3⟩ := cell4 h.cells
  obtain ⟨A, c, hvo, hlc, hcm⟩ := ownsRow_slice h.o
  have hl1 := h.wf.limit
  have hl2 := h.wf.bytes
  rw [ho] at hvo
  subst hvo
  rw [he] at c3
  simp only [List.length_nil] at c2
  have hsz : S.bytes.length ≤ 100000000 := by omega
  have HB := Lib.hid h.b
  clear he h c0 f1 f2 f3 ho hl1 hl2
  obtain ⟨i0, hi, hz0, hz1, hz2⟩ := info_parts info5
  go_enter Tryz.func58, Tryz.ntmps58
  go_wp2_with (at_builtin; go_must (refine wpList_app _ rfl _ _ 37 37 rfl w.heap.size 5 i0 (.int .u8 0) 1 1 Tryz.underlying37 hi hz0 hz1 hz2 rfl (.slice none 0 0) 0 [] rfl (World.ownsRow_nil _ _ _ _) _ S.bytes.length (S.bytes.map byteV) rfl ?c1 ?c2 ?c3 ?c4 ?_))
  case c1 => exact src_own Tryz.underlying37 HB.out (bytes_one _)
  case c2 => unfold maxLen; omega
  case c3 => omega
  case c4 => exact Nat.le_refl _
  intro v' w1 hown hgrow hat2
  have HO := Lib.hid hown
  have HM := Lib.hid ((Mods.refl [] w).grown hgrow (by simp [Value.ownBlock]))
  clear hown hgrow hat2
  go_wp2_with fail
  go_ret2
  exact ⟨v', rfl, by simpa using HO.out, HM.out⟩
/-- Done. -/
theorem vdone_any {a : Nat} {S : WSt} {vb vo : Value} {w : World} (h : IsW 131 w a S vb vo) :
    Calls Tryz.prog 58 #[.pointer (some ⟨a, 0, none⟩)] w fun e w' => ∃ v, e = .returned (.tuple #[v, .int .i64 (S.done.2 : Int)]) ∧ w'.ownsRow w.heap.size 5 1 v S.done.1.length (S.done.1.map byteV) ∧ Mods [] w w' := by
  unfold WSt.done
  by_cases he : S.err = 0
  · by_cases ho : S.opens = []
    · rw [if_neg (by omega), if_neg (by simpa using ho)]
      exact vdone_right h he ho
    · rw [if_neg (by omega), if_pos ho]
      refine (vdone_open h he ho).mono ?_
      rintro e w' ⟨h1, rfl⟩
      exact ⟨_, h1, World.ownsRow_nil _ _ _ _, Mods.refl _ _⟩
  · rw [if_pos he]
    refine (vdone_wrong h he).mono ?_
    rintro e w' ⟨h1, h2⟩
    exact ⟨_, h1, World.ownsRow_nil _ _ _ _, h2⟩
/-- Len. -/
theorem vlen_any {a : Nat} {S : WSt} {vb vo : Value} {w : World} (h : IsW 131 w a S vb vo) :
    Calls Tryz.prog 59 #[.pointer (some ⟨a, 0, none⟩)] w fun e w' => e = .returned (.int .i64 (S.bytes.length : Int)) ∧ w = w' := by
  obtain ⟨c0, c1, c2, c3, f1, f2, f3⟩ := cell4 h.cells
  obtain ⟨A, c, rfl, hlc, hcm⟩ := ownsRow_slice h.b
  clear h c0 c2 c3 f1 f2 f3
  go_enter Tryz.func59, Tryz.ntmps59
  go_wp2_with fail
  go_ret
  exact ⟨rfl, rfl⟩
theorem vapp_post {a : Nat} {S : WSt} {vb vo v' : Value} {w W w1 : World} {m : Nat} {bs : List UInt8} {news : List Value} {F : List Nat} (h : IsW 131 W a S vb vo) (hm : Mods F w W) (hF : ∀ k ∈ F, k ∈ foot a vb vo) (hg : W.grownBy w1 vb.ownBlock)
    (hown : w1.ownsRow 0 5 1 v' (S.bytes.length + m) (S.bytes.map byteV ++ news)) (hat : v'.ownBlock = vb.ownBlock ∨ v'.ownBlock = some W.heap.size) (hn : news = bs.map byteV) (hf : S.bytes.length + bs.length ≤ S.limit) :
    WPost 131 w a vb vo (S.add bs) (w1.setCell ⟨a, 1, none⟩ v') := by
  have h3 := h.app (by decide) hg hown hat hn hf
  refine WPost.of_b h3.1 ((hm.mono (fun k hk => Or.inl (hF k hk))).trans h3.2 (fun b hb => Or.inl hb)) ?_
  rcases hat with e | e
  · exact Or.inl e
  · exact Or.inr ⟨_, e, hm.size⟩
set_option maxRecDepth 100000 in
set_option maxHeartbeats 1000000 in
/-- Raw. -/
theorem vraw_any {a : Nat} {S : WSt} {vb vo vx : Value} {w : World} (h : IsW 131 w a S vb vo) (bs : List UInt8) (hx : Rd w vx (bs.map byteV)) :
    Calls Tryz.prog 126 #[.pointer (some ⟨a, 0, none⟩), vx] w fun e w' => e = .returned (.tuple #[]) ∧ WPost 131 w a vb vo (S.put bs) w' := by
  obtain ⟨c0, c1, c2, c3, f1, f2, f3⟩ := cell4 h.cells
  have hl1 := h.wf.limit
  have hl2 := h.wf.bytes
  obtain ⟨Ax, cx, hxe, hxl, hxm⟩ := rd_slice hx
  obtain rfl := hxe
  unfold maxLen at hxm
  have H := Lib.hid h
  have HX := Lib.hid hx
  obtain ⟨A, c, hvb, hlc, hcm⟩ := ownsRow_slice h.b
  subst hvb
  by_cases he : S.err = 0
  · rw [he] at c3
    by_cases hf : S.limit < S.bytes.length + bs.length
    · rw [WSt.put_full _ he hf]
      have HW := Lib.hid (fun k => (h.drewN k).wrong (by decide) 11 (by omega))
      have HM := Lib.hid (fun k => ((Mods.refl [a] w).drewN k).setCell (p := ⟨a, 3, none⟩) (Or.inl (by simp)) (.int .i64 ((11 : Nat) : Int)))
      clear h he hx c2 f1 f2
      go_enter Tryz.func126, Tryz.ntmps126
      go_wp2_with fail
      go_quiet (fail)
      go_wp2_with fail
      refine bodyPost_ret (results_none rfl _ _ _) rfl ?_
      exact ⟨rfl, WPost.same (HW.out _) (HM.out _) (by simp [foot])⟩
    · rw [WSt.put_fits _ he hf]
      have hf2 : S.bytes.length + bs.length ≤ S.limit := by omega
      have HF := Lib.hid hf2
      have hsz : S.bytes.length + bs.length ≤ 100000000 := by omega
      obtain ⟨i0, hi, hz0, hz1, hz2⟩ := info_parts info5
      clear h he hx c2 f2 f3
      go_enter Tryz.func126, Tryz.ntmps126
      go_wp2_with fail
      go_quiet (fail)
      go_wp2_with (at_builtin; go_must (refine wpList_app _ rfl _ _ 37 37 rfl 0 5 i0 (.int .u8 0) 1 1 Tryz.underlying37 hi hz0 hz1 hz2 rfl _ _ _ rfl (H.out.drewN nq).b _ bs.length (bs.map byteV) rfl ?c1 ?c2 ?c3 ?c4 ?_))
      case c1 =>
        have := (HX.out.mods ((Mods.refl [] w).drewN nq) (by simp)).src Tryz.underlying37 (bytes_one bs)
        rwa [List.length_map] at this
      case c2 => unfold maxLen; omega
      case c3 => omega
      case c4 => exact Nat.zero_le _
      intro v' w1 hown hgrow hat2
      have d1 : w1.cell? ⟨a, 1, none⟩ = some (.slice A S.bytes.length c) ∧ w1.frozen? ⟨a, 1, none⟩ = false := by
        have hr := wrow (H.out.drewN nq) (by decide)
        have ha : w1.heap[a]? = _ := (hgrow.block a (Array.getElem?_eq_some_iff.1 (H.out.drewN nq).cells).1 (fun e => hr.1 e.symm)).trans (H.out.drewN nq).cells
        obtain ⟨_, d1, _, _, g1, _⟩ := cell4 ha
        exact ⟨d1, g1⟩
      obtain ⟨d1, g1⟩ := d1
      obtain ⟨A', c', rfl⟩ := own_ctor hown
      have HR := Lib.hid (vapp_post (H.out.drewN nq) ((Mods.refl [] w).drewN nq) (by simp) hgrow hown hat2 rfl HF.out)
      clear hown hgrow hat2 c1 f1
      go_wp2_with fail
      go_end0
      exact ⟨rfl, HR.out⟩
  · rw [WSt.put_err _ he]
    have he' : ((S.err : Int) != 0) = true := by rw [bne_iff_ne]; omega
    clear h he hx c0 c1 c2 f1 f2 f3
    go_enter Tryz.func126, Tryz.ntmps126
    go_wp2_with fail
    refine bodyPost_ret (results_none rfl _ _ _) rfl ?_
    exact ⟨rfl, WPost.same H.out (Mods.refl [] _) (by simp)⟩
set_option maxRecDepth 100000 in
set_option maxHeartbeats 1000000 in
theorem vnum_any {a : Nat} {S : WSt} {vb vo : Value} {w : World} (h : IsW 131 w a S vb vo) (n k : Nat) (hk : k ≤ 8) (hn : n < 18446744073709551616) :
    Calls Tryz.prog 94 #[.pointer (some ⟨a, 0, none⟩), .int .u64 (n : Int), .int .i64 (k : Int)] w fun e w' => e = .returned (.tuple #[]) ∧ WPost 131 w a vb vo (S.put (le n k)) w' := by
  have H := Lib.hid h
  have H0 : Hid (Grew w.heap.size w (.slice none 0 0) [] (.slice none 0 0) w) := Lib.hid (Grew.refl (World.ownsRow_nil _ _ _ _))
  have HN := Lib.hid hn
  clear h hn
  obtain ⟨i0, hi, hz0, hz1, hz2⟩ := info_parts info5
  go_enter Tryz.func94, Tryz.ntmps94
  go_wp2_with fail
  go_loopw [6, 1, 7] (fun v' x i wr => RelNum w.heap.size w (.slice none 0 0) [] n k v' x i wr) (fun _ _ i _ => k - (intOf i).toNat)
  case atStart => exact ⟨0, n, by omega, rfl, rfl, by simp, by simpa [le] using H0.out⟩
  case round =>
    obtain ⟨j, q, hj, rfl, rfl, hq, hg⟩ := hrel
    have HQ := Lib.hid hq
    have HG := Lib.hid hg
    have hqn : q < 18446744073709551616 := Nat.lt_of_le_of_lt (by rw [hq]; exact Nat.div_le_self _ _) HN.out
    have hlen : ([] ++ le n j).length ≤ 100000008 := by rw [List.length_append, le_length, List.length_nil]; omega
    generalize hM : [] ++ le n j = M at *
    have HM := Lib.hid hM
    obtain ⟨A, c, rfl⟩ := own_ctor hg.1
    clear hg hq hM
    have hsz := HG.out.2.1.size
    have HQN := Lib.hid hqn
    clear hqn
    rcases Nat.lt_or_ge j k with hlt | hge
    · go_wp2_with (at_builtin; go_must (refine wpList_app _ rfl _ _ 37 37 rfl w.heap.size 5 i0 (.int .u8 0) 1 1 Tryz.underlying37 hi hz0 hz1 hz2 rfl _ _ _ rfl (HG.out.1.alloc _) _ 1 [.int .u8 ((q : Int) % 256)] rfl ?c1 ?c2 ?c3 ?c4 ?_))
      case c1 => exact src_one Tryz.underlying37 _ _ _ rfl
      case c2 => unfold maxLen; omega
      case c3 => omega
      case c4 => simp; omega
      intro v1 w1 hown hgrow hat
      have hG := HG.out.app _ hown (bs := [UInt8.ofNat q]) (by simp [byteV_mod]) rfl hgrow (by simpa using hat)
      rw [← HM.out, List.append_assoc, HQ.out, ← le_snoc] at hG
      have HR : Hid (RelNum w.heap.size w (.slice none 0 0) [] n k v1 (.int .u64 (IntKind.u64.wrap ((q : Int) / 256))) (.int .i64 ((j : Int) + 1)) w1) := Lib.hid ⟨j + 1, q / 256, by omega, rfl, by rw [IntKind.wrap_u64]; have := HQN.out; congr 1; omega, by rw [HQ.out, Nat.div_div_eq_div_mul, ← Nat.pow_succ], hG⟩
      obtain ⟨A1, c1, rfl⟩ := own_ctor hG.1
      clear hG hown hgrow hat
      go_wp2_with fail
      exact ⟨HR.out, by simp [intOf]; omega⟩
    · obtain rfl : j = k := by omega
      have hg := HG.out
      have E := Lib.hid (show le n j = M by rw [← HM.out]; rfl)
      have HP := Lib.hid (((WPost.start H.out).still (show Mods [] w wr from hg.2.1)).call fun vb vo hi => vraw_any hi M (Rd.of_own hg.1))
      clear hg
      go_wp2_with fail
      refine HP.out.mono ?_; rintro e w2 ⟨rfl, hp⟩
      have HQ2 := Lib.hid hp
      clear hp
      go_wp2_with fail
      go_end0
      refine ⟨rfl, ?_⟩
      rw [E.out]
      exact HQ2.out
theorem vu8_any {a : Nat} {S : WSt} {vb vo : Value} {w : World} (h : IsW 131 w a S vb vo) (n : Nat) (hn : n < 4294967296) :
    Calls Tryz.prog 51 #[.pointer (some ⟨a, 0, none⟩), .int .u8 (n : Int)] w fun e w' => e = .returned (.tuple #[]) ∧ WPost 131 w a vb vo (S.put (le n 1)) w' := by
  have H := Lib.hid (vnum_any h n 1 (by omega) (by omega))
  clear h
  go_enter Tryz.func51, Tryz.ntmps51
  go_wp2_with fail
  refine H.out.mono ?_; rintro e w1 ⟨rfl, hw⟩
  have HW := Lib.hid hw
  clear hw
  go_wp2_with fail
  go_end0
  exact ⟨rfl, HW.out⟩
theorem vu16_any {a : Nat} {S : WSt} {vb vo : Value} {w : World} (h : IsW 131 w a S vb vo) (n : Nat) (hn : n < 4294967296) :
    Calls Tryz.prog 102 #[.pointer (some ⟨a, 0, none⟩), .int .u16 (n : Int)] w fun e w' => e = .returned (.tuple #[]) ∧ WPost 131 w a vb vo (S.put (le n 2)) w' := by
  have H := Lib.hid (vnum_any h n 2 (by omega) (by omega))
  clear h
  go_enter Tryz.func102, Tryz.ntmps102
  go_wp2_with fail
  refine H.out.mono ?_; rintro e w1 ⟨rfl, hw⟩
  have HW := Lib.hid hw
  clear hw
  go_wp2_with fail
  go_end0
  exact ⟨rfl, HW.out⟩
theorem vu32_any {a : Nat} {S : WSt} {vb vo : Value} {w : World} (h : IsW 131 w a S vb vo) (n : Nat) (hn : n < 4294967296) :
    Calls Tryz.prog 103 #[.pointer (some ⟨a, 0, none⟩), .int .u32 (n : Int)] w fun e w' => e = .returned (.tuple #[]) ∧ WPost 131 w a vb vo (S.put (le n 4)) w' := by
  have H := Lib.hid (vnum_any h n 4 (by omega) (by omega))
  clear h
  go_enter Tryz.func103, Tryz.ntmps103
  go_wp2_with fail
  refine H.out.mono ?_; rintro e w1 ⟨rfl, hw⟩
  have HW := Lib.hid hw
  clear hw
  go_wp2_with fail
  go_end0
  exact ⟨rfl, HW.out⟩
theorem vu64_any {a : Nat} {S : WSt} {vb vo : Value} {w : World} (h : IsW 131 w a S vb vo) (n : Nat) (hn : n < 18446744073709551616) :
    Calls Tryz.prog 104 #[.pointer (some ⟨a, 0, none⟩), .int .u64 (n : Int)] w fun e w' => e = .returned (.tuple #[]) ∧ WPost 131 w a vb vo (S.put (le n 8)) w' := by
  have H := Lib.hid (vnum_any h n 8 (by omega) (by omega))
  clear h
  go_enter Tryz.func104, Tryz.ntmps104
  go_wp2_with fail
  refine H.out.mono ?_; rintro e w1 ⟨rfl, hw⟩
  have HW := Lib.hid hw
  clear hw
  go_wp2_with fail
  go_end0
  exact ⟨rfl, HW.out⟩
set_option maxHeartbeats 400000 in
theorem vshut_err {a : Nat} {S : WSt} {vb vo : Value} {w : World} (h : IsW 131 w a S vb vo) (p : Int) (he : S.err ≠ 0) :
    Calls Tryz.prog 106 #[.pointer (some ⟨a, 0, none⟩), .int .i64 p] w fun e w' => e = .returned (.tuple #[]) ∧ w = w' := by
  obtain ⟨c0, c1, c2, c3, f1, f2, f3⟩ := cell4 h.cells
  have he' : ((S.err : Int) != 0) = true := by rw [bne_iff_ne]; omega
  clear h he c0 c1 c2 f1 f2 f3
  go_enter Tryz.func106, Tryz.ntmps106
  go_wp2_with fail
  refine bodyPost_ret (results_none rfl _ _ _) rfl ?_
  exact ⟨rfl, rfl⟩
set_option maxHeartbeats 400000 in
theorem vshut_none {a : Nat} {S : WSt} {vb vo : Value} {w : World} (h : IsW 131 w a S vb vo) (p : Int) (he : S.err = 0) (ho : S.opens = []) :
    Calls Tryz.prog 106 #[.pointer (some ⟨a, 0, none⟩), .int .i64 p] w fun e w' => e = .returned (.tuple #[]) ∧ WPost 131 w a vb vo { S with err := 1 } w' := by
  obtain ⟨c0, c1, c2, c3, f1, f2, f3⟩ := cell4 h.cells
  obtain ⟨A, c, hvo, hlc, hcm⟩ := ownsRow_slice h.o
  rw [ho] at hvo
  have HW := Lib.hid (h.wrong (by decide) 1 (by omega))
  have HM := Lib.hid ((Mods.refl [a] w).setCell (p := ⟨a, 3, none⟩) (Or.inl (by simp)) (.int .i64 ((1 : Nat) : Int)))
  rw [he] at c3
  subst hvo
  simp only [List.length_nil] at c2
  clear h he ho c0 c1 f1 f2 hlc
  go_enter Tryz.func106, Tryz.ntmps106
  go_wp2_with fail
  refine bodyPost_ret (results_none rfl _ _ _) rfl ?_
  exact ⟨rfl, WPost.same HW.out HM.out (by simp [foot])⟩
set_option maxHeartbeats 400000 in
theorem vshut_other {a : Nat} {S : WSt} {vb vo : Value} {w : World} (h : IsW 131 w a S vb vo) (p : Int) (he : S.err = 0) (xs : List Nat) (q : Nat) (ho : S.opens = xs ++ [q]) (hp : (q : Int) ≠ p) :
    Calls Tryz.prog 106 #[.pointer (some ⟨a, 0, none⟩), .int .i64 p] w fun e w' => e = .returned (.tuple #[]) ∧ WPost 131 w a vb vo { S with err := 1 } w' := by
  obtain ⟨c0, c1, c2, c3, f1, f2, f3⟩ := cell4 h.cells
  have hoo := h.o
  have hmany := h.wf.many
  have hb1 := h.wf.bytes
  have hb2 := h.wf.limit
  rw [ho] at hoo hmany
  have HW := Lib.hid (h.wrong (by decide) 1 (by omega))
  have HM := Lib.hid ((Mods.refl [a] w).setCell (p := ⟨a, 3, none⟩) (Or.inl (by simp)) (.int .i64 ((1 : Nat) : Int)))
  rw [he] at c3
  rcases ownsRow_form hoo with ⟨_, h0, _⟩ | ⟨g, cap, rfl, hnc, hcm, _⟩
  · simp at h0
  · obtain ⟨hn, hcell⟩ := last_cell hoo
    have hpq : ((q : Int) != p) = true := by rw [bne_iff_ne]; exact hp
    simp only [List.length_append, List.length_cons, List.length_nil, Nat.zero_add] at c2 hnc hmany
    clear h he ho c0 c1 f1 f2 hoo hn hp
    go_enter Tryz.func106, Tryz.ntmps106
    go_wp2_with fail
    refine bodyPost_ret (results_none rfl _ _ _) rfl ?_
    exact ⟨rfl, WPost.same HW.out HM.out (by simp [foot])⟩
set_option maxHeartbeats 400000 in
theorem vshut_long {a : Nat} {S : WSt} {vb vo : Value} {w : World} (h : IsW 131 w a S vb vo) (he : S.err = 0) (xs : List Nat) (q : Nat) (ho : S.opens = xs ++ [q]) (hlong : 65535 < S.bytes.length - q - 2) :
    Calls Tryz.prog 106 #[.pointer (some ⟨a, 0, none⟩), .int .i64 (q : Int)] w fun e w' => e = .returned (.tuple #[]) ∧ WPost 131 w a vb vo { S with err := 13 } w' := by
  obtain ⟨c0, c1, c2, c3, f1, f2, f3⟩ := cell4 h.cells
  have hoo := h.o
  have hmany := h.wf.many
  have hb1 := h.wf.bytes
  have hb2 := h.wf.limit
  obtain ⟨A, c, hvb, hlc, hcb⟩ := ownsRow_slice h.b
  rw [ho] at hoo hmany
  have HW := Lib.hid (h.wrong (by decide) 13 (by omega))
  have HM := Lib.hid ((Mods.refl [a] w).setCell (p := ⟨a, 3, none⟩) (Or.inl (by simp)) (.int .i64 ((13 : Nat) : Int)))
  rw [he] at c3
  rcases ownsRow_form hoo with ⟨_, h0, _⟩ | ⟨g, cap, rfl, hnc, hcm, _⟩
  · simp at h0
  · obtain ⟨hn, hcell⟩ := last_cell hoo
    subst hvb
    simp only [List.length_append, List.length_cons, List.length_nil, Nat.zero_add] at c2 hnc hmany
    clear h he ho c0 f1 f2 hoo hn
    go_enter Tryz.func106, Tryz.ntmps106
    go_wp2_with fail
    refine bodyPost_ret (results_none rfl _ _ _) rfl ?_
    exact ⟨rfl, WPost.same HW.out HM.out (by simp [foot])⟩
theorem IsW.vshut {a : Nat} {S : WSt} {w : World} {gb cb g cap m q : Nat} {xs : List Nat} (h : IsW 131 w a S (.slice (some ⟨gb, 0, none⟩) S.bytes.length cb) (.slice (some ⟨g, 0, none⟩) m cap)) (ho : S.opens = xs ++ [q]) (hq : q + 2 ≤ S.bytes.length) (hl : S.bytes.length - q - 2 ≤ 65535) :
    WPost 131 w a (.slice (some ⟨gb, 0, none⟩) S.bytes.length cb) (.slice (some ⟨g, 0, none⟩) m cap) { S with bytes := (S.bytes.set q (UInt8.ofNat (S.bytes.length - q - 2))).set (q + 1) (UInt8.ofNat ((S.bytes.length - q - 2) / 256)), opens := xs }
      (((w.setCell ⟨gb, q, none⟩ (.int .u8 (((S.bytes.length : Int) - (q : Int) - 2) % 256))).setCell ⟨gb, q + 1, none⟩ (.int .u8 (((S.bytes.length : Int) - (q : Int) - 2) / 256))).setCell ⟨a, 2, none⟩ (.slice (some ⟨g, 0, none⟩) xs.length cap)) := by
  have hr := wrow h (by decide)
  have n1 : gb ≠ a := fun e => hr.1 (by rw [← e]; rfl)
  have n3 : g ≠ a := fun e => hr.2.1 (by rw [← e]; rfl)
  have n4 : gb ≠ g := fun e => hr.2.2 gb rfl (by rw [e]; rfl)
  have v1 : Value.int .u8 (((S.bytes.length : Int) - (q : Int) - 2) % 256) = byteV (UInt8.ofNat (S.bytes.length - q - 2)) := by
    rw [byteV_mod]
    congr 2
    omega
  have v2 : Value.int .u8 (((S.bytes.length : Int) - (q : Int) - 2) / 256) = byteV (UInt8.ofNat ((S.bytes.length - q - 2) / 256)) := by
    rw [byteV_mod]
    congr 1
    omega
  rw [v1, v2]
  have hb := h.b
  have b1 := (hb.stored q (byteV (UInt8.ofNat (S.bytes.length - q - 2)))).1
  have b2 := (b1.stored (q + 1) (byteV (UInt8.ofNat ((S.bytes.length - q - 2) / 256)))).1
  have b3 := ownsRow_set b2 (a := ⟨a, 2, none⟩) (by simp [Value.ownBlock, n1]) (.slice (some ⟨g, 0, none⟩) xs.length cap)
  have hoo := h.o
  rw [ho] at hoo
  have hm : m = xs.length + 1 := by
    rcases ownsRow_form h.o with ⟨h1, _⟩ | ⟨g', cap', h1, _⟩
    · simp at h1
    · simp only [Value.slice.injEq, Option.some.injEq, Addr.mk.injEq, and_true] at h1
      rw [h1.2.1, ho]
      simp
  have o0 : w.ownsRow 0 3 1 (.slice (some ⟨g, 0, none⟩) m cap) m ((xs ++ [q]).map intV) := by
    have : (xs ++ [q]).length = m := by simp; omega
    rwa [this] at hoo
  have o1 := ownsRow_cut o0 xs.length (by omega)
  have o2 := ownsRow_set o1 (a := ⟨gb, q, none⟩) (by simp [Value.ownBlock, Ne.symm n4]) (byteV (UInt8.ofNat (S.bytes.length - q - 2)))
  have o3 := ownsRow_set o2 (a := ⟨gb, q + 1, none⟩) (by simp [Value.ownBlock, Ne.symm n4]) (byteV (UInt8.ofNat ((S.bytes.length - q - 2) / 256)))
  have o4 := ownsRow_set o3 (a := ⟨a, 2, none⟩) (by simp [Value.ownBlock, n3]) (.slice (some ⟨g, 0, none⟩) xs.length cap)
  refine ⟨.slice (some ⟨gb, 0, none⟩) S.bytes.length cb, .slice (some ⟨g, 0, none⟩) xs.length cap, ⟨⟨h.wf.limit, by simpa using h.wf.bytes, fun x hx => ?_, ?_, h.wf.err⟩, ?_, ?_, ?_⟩, ?_, ?_⟩
  · have := h.wf.opens x (by rw [ho]; simp [hx])
    simpa using this
  · have := h.wf.many
    rw [ho] at this
    simp at this ⊢
    omega
  · rw [heap_setCell_same (t := 131) (cs := #[.int .i64 (S.limit : Int), .slice (some ⟨gb, 0, none⟩) S.bytes.length cb, .slice (some ⟨g, 0, none⟩) m cap, .int .i64 (S.err : Int)]) _ _ _ _ (by
      rw [heap_setCell_other _ _ _ _ (by simpa using Ne.symm n1), heap_setCell_other _ _ _ _ (by simpa using Ne.symm n1)]
      exact h.cells)]
    rfl
  · simpa [List.map_set] using b3
  · have e : ((xs ++ [q]).map intV).take xs.length = xs.map intV := by simp
    rw [e] at o4
    exact o4
  · exact (((Mods.refl _ _).setCell (p := ⟨gb, q, none⟩) (Or.inl (mem_foot.2 (Or.inr (Or.inl rfl)))) _).setCell (p := ⟨gb, q + 1, none⟩) (Or.inl (mem_foot.2 (Or.inr (Or.inl rfl)))) _).setCell (p := ⟨a, 2, none⟩) (Or.inl (mem_foot.2 (Or.inl rfl))) _
  · intro k hk
    rcases mem_foot.1 hk with rfl | hk | hk
    · exact Or.inl (mem_foot.2 (Or.inl rfl))
    · exact Or.inl (mem_foot.2 (Or.inr (Or.inl hk)))
    · exact Or.inl (mem_foot.2 (Or.inr (Or.inr hk)))
set_option maxRecDepth 100000 in
set_option maxHeartbeats 1000000 in
theorem vshut_right {a : Nat} {S : WSt} {vb vo : Value} {w : World} (h : IsW 131 w a S vb vo) (he : S.err = 0) (xs : List Nat) (q : Nat) (ho : S.opens = xs ++ [q]) (hlong : ¬ 65535 < S.bytes.length - q - 2) :
    Calls Tryz.prog 106 #[.pointer (some ⟨a, 0, none⟩), .int .i64 (q : Int)] w fun e w' => e = .returned (.tuple #[]) ∧
      WPost 131 w a vb vo { S with bytes := (S.bytes.set q (UInt8.ofNat (S.bytes.length - q - 2))).set (q + 1) (UInt8.ofNat ((S.bytes.length - q - 2) / 256)), opens := xs } w' := by
  obtain ⟨c0, c1, c2, c3, f1, f2, f3⟩ := cell4 h.cells
  have hoo := h.o
  have hmany := h.wf.many
  have hb1 := h.wf.bytes
  have hb2 := h.wf.limit
  have hq := h.wf.opens q (by rw [ho]; simp)
  have hr := wrow h (by decide)
  rw [ho] at hoo hmany
  rw [he] at c3
  have H := Lib.hid h
  have HO := Lib.hid ho
  rcases ownsRow_form hoo with ⟨_, h0, _⟩ | ⟨g, cap, rfl, hnc, hcm, _⟩
  · simp at h0
  · rcases ownsRow_form h.b with ⟨_, h0, _⟩ | ⟨gb, cb, rfl, hnb, hcb, _⟩
    · omega
    · obtain ⟨hn, hcell⟩ := last_cell hoo
      have hq1 : q < S.bytes.length := by omega
      have hq2 : q + 1 < S.bytes.length := by omega
      have b1 : w.cell? ⟨gb, q, none⟩ = some (byteV S.bytes[q]) := by
        rw [h.b.cellAt q (by omega)]
        simp [hq1]
      have b2 : w.cell? ⟨gb, q + 1, none⟩ = some (byteV S.bytes[q + 1]) := by
        rw [h.b.cellAt (q + 1) (by omega)]
        simp [hq2]
      have z1 := h.b.frozenAt q
      have z2 := h.b.frozenAt (q + 1)
      have n1 : ¬ gb = a := fun e => hr.1 (by rw [← e]; rfl)
      have n2 : ¬ a = gb := fun e => n1 e.symm
      have n3 : ¬ g = a := fun e => hr.2.1 (by rw [← e]; rfl)
      have n4 : ¬ g = gb := fun e => hr.2.2 gb rfl (by rw [← e]; rfl)
      simp only [List.length_append, List.length_cons, List.length_nil, Nat.zero_add] at c2 hnc hmany
      clear h he ho c0 f1 hoo hn hr f3
      unfold byteV at b1 b2
      go_enter Tryz.func106, Tryz.ntmps106
      go_wp2_with fail
      go_end0
      exact ⟨rfl, H.out.vshut HO.out hq (by omega)⟩
/-- Shut. -/
theorem vshut_any {a : Nat} {S : WSt} {vb vo : Value} {w : World} (h : IsW 131 w a S vb vo) (p : Int) :
    Calls Tryz.prog 106 #[.pointer (some ⟨a, 0, none⟩), .int .i64 p] w fun e w' => e = .returned (.tuple #[]) ∧ WPost 131 w a vb vo (S.shut p) w' := by
  unfold WSt.shut
  by_cases he : S.err = 0
  · rw [if_neg (by omega)]
    rcases List.eq_nil_or_concat S.opens with ho | ⟨xs, q, ho⟩
    · have hl : S.opens.getLast? = none := by rw [ho]; rfl
      simp only [hl]
      exact vshut_none h p he ho
    · rw [List.concat_eq_append] at ho
      have hl : S.opens.getLast? = some q := by rw [ho]; simp
      have hd : S.opens.dropLast = xs := by rw [ho]; simp
      simp only [hl, hd]
      by_cases hp : (q : Int) = p
      · subst hp
        rw [if_neg (by simp)]
        by_cases hlong : 65535 < S.bytes.length - q - 2
        · rw [if_pos hlong]
          exact vshut_long h he xs q ho hlong
        · rw [if_neg hlong]
          exact vshut_right h he xs q ho hlong
      · rw [if_pos hp]
        exact vshut_other h p he xs q ho hp
  · rw [if_pos he]
    refine (vshut_err h p he).mono ?_
    rintro e w' ⟨h1, rfl⟩
    exact ⟨h1, WPost.same h (Mods.refl [] _) (by simp)⟩
end Go.Proofs.YtnpokdbpmnkbjaaGreatDoor
