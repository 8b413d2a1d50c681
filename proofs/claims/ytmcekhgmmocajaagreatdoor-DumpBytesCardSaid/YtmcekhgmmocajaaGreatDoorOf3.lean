/- vergerref21's num: a number onto a row of bytes. | append upon a full row that one only reads; num upon it; Summed. | The reference's Encode, walked. | Where the reference encodes, the program encodes. | The reference writes in order what the program writes in order. -/
import Derived.Test.YtmcekhgmmocajaaGreatDoorRo
import Derived.Test.YtmcekhgmmocajaaGreatDoorEo
import Derived.Test.YtmcekhgmmocajaaGreatDoorSb
namespace Go.Proofs.YtmcekhgmmocajaaGreatDoor
open Go.RowKit Me

/-- A row of bytes of one's own has gone on from v in w: it bears L now. -/
def Grew (B : Nat) (w : World) (v : Value) (L : List UInt8) (v' : Value) (w' : World) : Prop :=
  w'.ownsRow B 5 1 v' L.length (L.map byteV) ∧ Mods v.ownBlock.toList w w' ∧ (v'.ownBlock = v.ownBlock ∨ ∃ k, v'.ownBlock = some k ∧ w.heap.size ≤ k)
theorem Grew.refl {B : Nat} {w : World} {v : Value} {L : List UInt8} (h : w.ownsRow B 5 1 v L.length (L.map byteV)) : Grew B w v L v w := ⟨h, Mods.refl _ _, Or.inl rfl⟩
theorem Grew.trans {B : Nat} {w w1 w2 : World} {v v1 v2 : Value} {L M : List UInt8} (h : Grew B w v L v1 w1) (k : Grew B w1 v1 M v2 w2) : Grew B w v M v2 w2 := by
  obtain ⟨h1, h2, h3⟩ := h
  obtain ⟨k1, k2, k3⟩ := k
  refine ⟨k1, h2.trans k2 (fun b hb => ?_), ?_⟩
  · rcases h3 with e | ⟨j, e, hj⟩
    · rw [e] at hb
      exact Or.inl hb
    · rw [e] at hb
      simp at hb
      subst hb
      exact Or.inr hj
  · rcases k3 with e | ⟨j, e, hj⟩
    · rw [e]
      exact h3
    · exact Or.inr ⟨j, e, Nat.le_trans h2.size hj⟩
/-- One append more, behind a new block. -/
theorem Grew.app {B : Nat} {w w1 w2 : World} {v v1 v2 : Value} {L bs : List UInt8} {m : Nat} {news : List Value} (h : Grew B w v L v1 w1) (o : Obj) (hown : w2.ownsRow B 5 1 v2 (L.length + m) (L.map byteV ++ news)) (hn : news = bs.map byteV) (hm : m = bs.length)
    (hg : (w1.alloc o).grownBy w2 v1.ownBlock) (h2 : v2.ownBlock = v1.ownBlock ∨ v2.ownBlock = some (w1.heap.size + 1)) : Grew B w v (L ++ bs) v2 w2 := by
  subst hn
  subst hm
  refine h.trans (M := L ++ bs) ⟨by simpa using hown, ((Mods.refl _ _).alloc o).grown hg (fun b hb => Or.inl (by rw [hb]; simp)), ?_⟩
  rcases h2 with e | e
  · exact Or.inl e
  · exact Or.inr ⟨_, e, by omega⟩
theorem Grew.app0 {B : Nat} {w w1 w2 : World} {v v1 v2 : Value} {L bs : List UInt8} {m : Nat} {news : List Value} (h : Grew B w v L v1 w1) (hown : w2.ownsRow B 5 1 v2 (L.length + m) (L.map byteV ++ news)) (hn : news = bs.map byteV) (hm : m = bs.length)
    (hg : w1.grownBy w2 v1.ownBlock) (h2 : v2.ownBlock = v1.ownBlock ∨ v2.ownBlock = some w1.heap.size) : Grew B w v (L ++ bs) v2 w2 := by
  subst hn
  subst hm
  refine h.trans (M := L ++ bs) ⟨by simpa using hown, (Mods.refl _ _).grown hg (fun b hb => Or.inl (by rw [hb]; simp)), ?_⟩
  rcases h2 with e | e
  · exact Or.inl e
  · exact Or.inr ⟨_, e, by omega⟩
def RelNum (B : Nat) (w : World) (v : Value) (L : List UInt8) (n k : Nat) (v' x i : Value) (wr : World) : Prop :=
  ∃ j q : Nat, j ≤ k ∧ i = .int .i64 j ∧ x = .int .u64 (q : Int) ∧ q = n / 256 ^ j ∧ Grew B w v (L ++ le n j) v' wr
def NumPost (B : Nat) (w : World) (v : Value) (L : List UInt8) (e : Ending) (w' : World) : Prop := ∃ v', e = .returned v' ∧ Grew B w v L v' w'
set_option maxRecDepth 100000 in
set_option maxHeartbeats 1000000 in
theorem num_any {B : Nat} {w : World} {v : Value} (L : List UInt8) (hv : w.ownsRow B 5 1 v L.length (L.map byteV)) (hB : B ≤ w.heap.size) (n k : Nat) (hk : k ≤ 8) (hL : L.length ≤ 100000000000) (hn : n < 18446744073709551616) :
    Calls Tryz.prog 35 #[v, .int .u64 (n : Int), .int .i64 (k : Int)] w (NumPost B w v (L ++ le n k)) := by
  have H0 := Lib.hid (Grew.refl hv)
  have HN := Lib.hid hn
  clear hv hn
  obtain ⟨i0, hi, hz0, hz1, hz2⟩ := info_parts info5
  go_enter Tryz.func35, Tryz.ntmps35
  go_wp2_with fail
  go_loopw [0, 1, 7] (fun v' x i wr => RelNum B w v L n k v' x i wr) (fun _ _ i _ => k - (intOf i).toNat)
  case atStart => exact ⟨0, n, by omega, rfl, rfl, by simp, by simpa [le] using H0.out⟩
  case round =>
    obtain ⟨j, q, hj, rfl, rfl, hq, hg⟩ := hrel
    have HQ := Lib.hid hq
    have HG := Lib.hid hg
    have hqn : q < 18446744073709551616 := Nat.lt_of_le_of_lt (by rw [hq]; exact Nat.div_le_self _ _) HN.out
    have hlen : (L ++ le n j).length ≤ 100000000008 := by rw [List.length_append, le_length]; omega
    generalize hM : L ++ le n j = M at *
    have HM := Lib.hid hM
    obtain ⟨A, c, rfl⟩ := own_ctor hg.1
    clear hg hq hM
    have hsz := HG.out.2.1.size
    have HQN := Lib.hid hqn
    clear hqn
    rcases Nat.lt_or_ge j k with hlt | hge
    · go_wp2_with (at_builtin; go_must (refine wpList_app _ rfl _ _ 22 22 rfl B 5 i0 (.int .u8 0) 1 1 Tryz.underlying22 hi hz0 hz1 hz2 rfl _ _ _ rfl (HG.out.1.alloc _) _ 1 [.int .u8 ((q : Int) % 256)] rfl ?c1 ?c2 ?c3 ?c4 ?_))
      case c1 => exact src_one Tryz.underlying22 _ _ _ rfl
      case c2 => unfold maxLen; omega
      case c3 => omega
      case c4 => simp; omega
      intro v1 w1 hown hgrow hat
      have hG := HG.out.app _ hown (bs := [UInt8.ofNat q]) (by simp [byteV_mod]) rfl hgrow (by simpa using hat)
      rw [← HM.out, List.append_assoc, HQ.out, ← le_snoc] at hG
      have HG1 := Lib.hid hG
      have HR : Hid (RelNum B w v L n k v1 (.int .u64 (IntKind.u64.wrap ((q : Int) / 256))) (.int .i64 ((j : Int) + 1)) w1) := Lib.hid ⟨j + 1, q / 256, by omega, rfl, by rw [IntKind.wrap_u64]; have := HQN.out; congr 1; omega, by rw [HQ.out, Nat.div_div_eq_div_mul, ← Nat.pow_succ], hG⟩
      obtain ⟨A1, c1, rfl⟩ := own_ctor hG.1
      clear hG hown hgrow hat
      go_wp2_with fail
      exact ⟨HR.out, by simp [intOf]; omega⟩
    · obtain rfl : j = k := by omega
      go_wp2_with fail
      go_ret
      refine ⟨_, rfl, ?_⟩
      rw [HM.out]
      exact HG.out
end Go.Proofs.YtmcekhgmmocajaaGreatDoor
namespace Go.Proofs.YtmcekhgmmocajaaGreatDoor
open Go.RowKit Me

namespace Me
theorem wpList_app_full {P : Program} {w : World} {ops : Array Oper} {rest : List Oper} {o : Oper} {a : Act} {Q : Exit → Act → World → Prop} (hgd : o.guard = none) (s x : Operand) (t tx : TypeId)
    (ho : o.op = .call { callee := .builtin .append, args := #[s, x], argTypes := #[t, tx] })
    (base : Nat) (e : TypeId) (i : TypeInfo) (z : Value) (size bytes : Nat) (ht : P.underlying t = some (.slice e)) (hi : P.info? e = some i) (hz : i.zero = some z)
    (hsize : i.size = size) (hby : i.bytes = bytes) (hzs : z.cells.size = size)
    (g n : Nat) (xs : List Value) (hs : a.eval s = .slice (some ⟨g, 0, none⟩) n n) (hxl : xs.length = n * size) (hold : ∀ j u, xs[j]? = some u → w.cell? ((⟨g, 0, none⟩ : Addr).add j) = some u)
    (vx : Value) (m : Nat) (news : List Value) (hx : a.eval x = vx) (hsrc : Src P size tx vx m news w) (hm : 0 < m)
    (h63 : n + m ≤ maxLen) (hbytes : (n + m) * bytes ≤ 140737488355328) (hbase : base ≤ w.heap.size)
    (h : ∀ v' w', w'.ownsRow base e size v' (n + m) (xs ++ news) → w.grownBy w' none → v'.ownBlock = some w.heap.size → wpList P ops Q rest (a.put o.dst v') w') :
    wpList P ops Q (o :: rest) a w := by
  subst hsize
  subst hby
  have hsmall : n + m ≤ 9223372036854775807 := by simp only [maxLen] at h63; omega
  have hlen : (xs ++ news).length = (n + m) * i.size := by rw [List.length_append, hxl, hsrc.newsLen, Nat.add_mul]
  have hr := run_append_grow_src (P := P) w t tx o.type e i z ht hi hz (some ⟨g, 0, none⟩) n n xs (run_firstCells_some w.drew i.size n ⟨g, 0, none⟩ n n xs hxl (by simpa using hold)) vx m news hsrc (by omega) (by omega) (growslice_fits (by omega) (by simpa using hbytes))
  have hge := grownCap_ge w (n + m) n e
  have hcm : grownCap w (n + m) n e ≤ maxLen := grownCap_le_maxLen w (n + m) n e h63
  refine wpList_plain hgd fun K hK => ?_
  unfold Oper.wp execOp
  simp only [ho, resolve, invoke, builtin, Sem.run_bind, Sem.run_pure, Result.andThen_ok, List.map_toArray, List.map_cons, List.map_nil, hs, hx, hr]
  refine hK _ _ (h _ _ ⟨hlen, .inr ⟨w.heap.size, _, _, rfl, hbase, heap_alloc_new w.drew _, hge, hcm, ?_, ?_⟩⟩ ⟨rfl, rfl, rfl, by simp, fun k hk _ => Below.heap_alloc w.drew _ k hk⟩ rfl)
  · rw [Array.size_append, List.size_toArray, size_zeroCells, hzs, hlen, ← Nat.add_mul]
    congr 1
    omega
  · simp only [Array.toList_append]
    rw [← hlen]
    exact List.take_left
end Me
def RelNumF (w : World) (g : Nat) (L : List UInt8) (n k : Nat) (v' x i : Value) (wr : World) : Prop :=
  ∃ j q : Nat, j ≤ k ∧ i = .int .i64 j ∧ x = .int .u64 (q : Int) ∧ q = n / 256 ^ j ∧ ((j = 0 ∧ v' = .slice (some ⟨g, 0, none⟩) L.length L.length ∧ wr = w) ∨ (0 < j ∧ wr.ownsRow w.heap.size 5 1 v' (L ++ le n j).length ((L ++ le n j).map byteV) ∧ Mods [] w wr))
set_option maxRecDepth 100000 in
set_option maxHeartbeats 1000000 in
theorem num_first {w : World} {g : Nat} (L : List UInt8) (hold : ∀ j u, (L.map byteV)[j]? = some u → w.cell? ((⟨g, 0, none⟩ : Addr).add j) = some u) (n k : Nat) (hk : k ≤ 8) (hk0 : 0 < k) (hL : L.length ≤ 100000000) (hn : n < 18446744073709551616) :
    Calls Tryz.prog 35 #[.slice (some ⟨g, 0, none⟩) L.length L.length, .int .u64 (n : Int), .int .i64 (k : Int)] w fun e w' => ∃ v', e = .returned v' ∧ w'.ownsRow w.heap.size 5 1 v' (L ++ le n k).length ((L ++ le n k).map byteV) ∧ Mods [] w w' := by
  have HO := Lib.hid hold
  have HN := Lib.hid hn
  clear hold hn
  obtain ⟨i0, hi, hz0, hz1, hz2⟩ := info_parts info5
  go_enter Tryz.func35, Tryz.ntmps35
  go_wp2_with fail
  go_loopw [0, 1, 7] (fun v' x i wr => RelNumF w g L n k v' x i wr) (fun _ _ i _ => k - (intOf i).toNat)
  case atStart => exact ⟨0, n, by omega, rfl, rfl, by simp, Or.inl ⟨rfl, rfl, rfl⟩⟩
  case round =>
    obtain ⟨j, q, hj, rfl, rfl, hq, hg⟩ := hrel
    have HQ := Lib.hid hq
    have hqn : q < 18446744073709551616 := Nat.lt_of_le_of_lt (by rw [hq]; exact Nat.div_le_self _ _) HN.out
    have HQN := Lib.hid hqn
    clear hq hqn
    rcases hg with ⟨rfl, rfl, rfl⟩ | ⟨hj0, ho, hm⟩
    · have HQ0 : Hid (q = n) := Lib.hid (by rw [HQ.out]; simp)
      have HB : Hid (∀ j u, (L.map byteV)[j]? = some u → (wr.alloc (.cells #[.int .u8 ((q : Int) % 256)] 5)).cell? ((⟨g, 0, none⟩ : Addr).add j) = some u) := Lib.hid (fun j u hu => by
        have h1 := HO.out j u hu
        rw [((Mods.refl [] wr).alloc _).cell (World.block_lt_of_cell? _ _ h1) (by simp)]
        exact h1)
      go_wp2_with (at_builtin; go_must (refine wpList_app_full rfl _ _ 22 22 rfl wr.heap.size 5 i0 (.int .u8 0) 1 1 Tryz.underlying22 hi hz0 hz1 hz2 rfl g L.length (L.map byteV) rfl ?c0 HB.out _ 1 [.int .u8 ((q : Int) % 256)] rfl ?c1 (by decide) ?c2 ?c3 ?c4 ?_))
      case c0 => simp
      case c1 => exact src_one Tryz.underlying22 _ _ _ rfl
      case c2 => unfold maxLen; omega
      case c3 => omega
      case c4 => simp
      intro v1 w1 hown hgrow hat
      have hown2 : w1.ownsRow wr.heap.size 5 1 v1 (L ++ le n 1).length ((L ++ le n 1).map byteV) := by
        rw [List.length_append, le_length, List.map_append]
        have : (le n 1).map byteV = [.int .u8 ((q : Int) % 256)] := by
          rw [HQ0.out]
          simp [le, byteV_mod]
        rw [this]
        exact hown
      have HR : Hid (RelNumF wr g L n k v1 (.int .u64 (IntKind.u64.wrap ((q : Int) / 256))) (.int .i64 1) w1) := Lib.hid ⟨1, q / 256, by omega, rfl, by rw [IntKind.wrap_u64]; have := HQN.out; congr 1; omega, by rw [HQ0.out, Nat.pow_one], Or.inr ⟨by decide, hown2, ((Mods.refl [] wr).alloc _).grown hgrow (fun b hb => by cases hb)⟩⟩
      obtain ⟨A1, c1, rfl⟩ := own_ctor hown
      clear hown2 hown hgrow hat
      go_wp2_with fail
      exact ⟨HR.out, by simp [intOf]; omega⟩
    · have HG := Lib.hid ho
      have HM := Lib.hid hm
      have hws := hm.size
      have hlen : (L ++ le n j).length ≤ 100000008 := by rw [List.length_append, le_length]; omega
      generalize hM : L ++ le n j = M at *
      have HML := Lib.hid hM
      obtain ⟨A, c, rfl⟩ := own_ctor ho
      clear ho hm hM
      rcases Nat.lt_or_ge j k with hlt | hge
      · go_wp2_with (at_builtin; go_must (refine wpList_app _ rfl _ _ 22 22 rfl w.heap.size 5 i0 (.int .u8 0) 1 1 Tryz.underlying22 hi hz0 hz1 hz2 rfl _ _ _ rfl (HG.out.alloc _) _ 1 [.int .u8 ((q : Int) % 256)] rfl ?c1 ?c2 ?c3 ?c4 ?_))
        case c1 => exact src_one Tryz.underlying22 _ _ _ rfl
        case c2 => unfold maxLen; omega
        case c3 => omega
        case c4 => simp; omega
        intro v1 w1 hown hgrow hat
        have hown2 : w1.ownsRow w.heap.size 5 1 v1 (L ++ le n (j + 1)).length ((L ++ le n (j + 1)).map byteV) := by
          rw [le_snoc, ← List.append_assoc, HML.out, ← HQ.out, List.length_append, List.map_append]
          have : ([UInt8.ofNat q].map byteV) = [.int .u8 ((q : Int) % 256)] := by simp [byteV_mod]
          rw [this]
          exact hown
        have HR : Hid (RelNumF w g L n k v1 (.int .u64 (IntKind.u64.wrap ((q : Int) / 256))) (.int .i64 ((j : Int) + 1)) w1) := Lib.hid ⟨j + 1, q / 256, by omega, rfl, by rw [IntKind.wrap_u64]; have := HQN.out; congr 1; omega, by rw [HQ.out, Nat.div_div_eq_div_mul, ← Nat.pow_succ], Or.inr ⟨by omega, hown2, (HM.out.alloc _).grown hgrow (fun b hb => Or.inr (HG.out.lt b hb).1)⟩⟩
        obtain ⟨A1, c1, rfl⟩ := own_ctor hown
        clear hown2 hown hgrow hat
        go_wp2_with fail
        exact ⟨HR.out, by simp [intOf]; omega⟩
      · obtain rfl : j = k := by omega
        go_wp2_with fail
        go_ret
        refine ⟨_, rfl, ?_, HM.out⟩
        rw [HML.out]
        exact HG.out
set_option maxRecDepth 100000 in
set_option maxHeartbeats 1000000 in
/-- The sum behind a row of one's own. -/
theorem summed_any {B : Nat} {w : World} {v : Value} (L : List UInt8) (hv : w.ownsRow B 5 1 v L.length (L.map byteV)) (hB : B ≤ w.heap.size) (hL : L.length ≤ 100000000) :
    Calls Tryz.prog 36 #[v] w fun e w' => ∃ v', e = .returned v' ∧ Grew B w v (L ++ le (sumD L) 8) v' w' := by
  have hcv2 := conv_rd (Rd.of_own hv)
  have hss := rsum_any (mkB L) w (by simp only [mkB, ByteArray.size, List.size_toArray]; omega)
  rw [data_mkB] at hss
  have HN := Lib.hid (num_any L hv hB (sumD L) 8 (Nat.le_refl _) (by omega) (sumD_lt L))
  obtain ⟨A9, c9, rfl⟩ := own_ctor hv
  have HSS := Lib.hid hss
  rw [show (⟨L.toArray⟩ : ByteArray) = mkB L from rfl] at hcv2
  generalize sumD L = sm at *
  clear hss hv
  go_enter Tryz.func36, Tryz.ntmps36
  go_wp2_with fail
  refine HSS.out.mono ?_
  rintro x w8 ⟨rfl, rfl⟩
  go_wp2_with fail
  refine HN.out.mono ?_
  rintro x w9 ⟨v', rfl, hg⟩
  have HG := Lib.hid hg
  obtain ⟨A1, c1, rfl⟩ := own_ctor hg.1
  clear hg hcv2
  go_wp2_with fail
  go_ret
  have hG := HG.out
  rw [List.length_append] at hG
  exact ⟨_, rfl, hG⟩
end Go.Proofs.YtmcekhgmmocajaaGreatDoor
namespace Go.Proofs.YtmcekhgmmocajaaGreatDoor
open Go.RowKit Me Go.BigFrame

/-- A row of bytes of one's own, made since w0. -/
def Own2 (w0 w : World) (v : Value) (M : List UInt8) : Prop := w.ownsRow w0.heap.size 5 1 v M.length (M.map byteV) ∧ Mods [] w0 w
theorem Own2.grew {w0 w w' : World} {v v' : Value} {M N : List UInt8} (h : Own2 w0 w v M) (g : Grew w0.heap.size w v N v' w') : Own2 w0 w' v' N := ⟨g.1, h.2.trans g.2.1 (fun b hb => Or.inr (h.1.lt b (by simpa using hb)).1)⟩
theorem Own2.num {w0 w : World} {v : Value} {M : List UInt8} (h : Own2 w0 w v M) (n k : Nat) (hk : k ≤ 8) (hM : M.length ≤ 100000000000) (hn : n < 18446744073709551616) :
    Calls Tryz.prog 35 #[v, .int .u64 (n : Int), .int .i64 (k : Int)] w fun e w' => ∃ v', e = .returned v' ∧ Own2 w0 w' v' (M ++ le n k) :=
  (num_any M h.1 h.2.size n k hk hM hn).mono fun _ _ ⟨v', he, hg⟩ => ⟨v', he, h.grew hg⟩
theorem Own2.app {w0 w1 w2 : World} {v1 v2 : Value} {L bs : List UInt8} {m : Nat} {news : List Value} (h : Own2 w0 w1 v1 L) (hown : w2.ownsRow w0.heap.size 5 1 v2 (L.length + m) (L.map byteV ++ news)) (hn : news = bs.map byteV) (hm : m = bs.length)
    (hg : w1.grownBy w2 v1.ownBlock) (h2 : v2.ownBlock = v1.ownBlock ∨ v2.ownBlock = some w1.heap.size) : Own2 w0 w2 v2 (L ++ bs) := h.grew ((Grew.refl h.1).app0 hown hn hm hg h2)
theorem sizeL_app (a b : List EntP) : sizeL (a ++ b) = sizeL a + sizeL b := by simp [sizeL]
theorem sizeL_take (L : List EntP) (k : Nat) : sizeL (L.take k) ≤ sizeL L := by
  have h := sizeL_app (L.take k) (L.drop k)
  rw [List.take_append_drop] at h
  omega
theorem sizeL_snoc (l : List EntP) (e : EntP) : sizeL (l ++ [e]) = sizeL l + e.size := by simp [sizeL]
theorem sizeL_le (L : List EntP) (hz : ∀ e ∈ L, Small e) : sizeL L ≤ L.length * 300000016 := by
  induction L with
  | nil => simp [sizeL]
  | cons e L ih =>
    have h1 := ih (fun e he => hz e (List.mem_cons_of_mem _ he))
    have h2 := hz e List.mem_cons_self
    have := h2.path
    have := h2.gid
    have := h2.data
    simp only [sizeL, List.map_cons, List.sum_cons, EntP.size, List.length_cons] at *
    omega
def encPR (L : List EntP) : List UInt8 × Nat :=
  if L.all mayE = false then ([], 210) else if L = [] then ([], 210) else if ordR L = false then ([], 211) else if 16777216 < 19 + sizeL L then ([], 11) else (fullD L, 0)
def RelSz (w : World) (L : List EntP) (n i : Value) (wr : World) : Prop := ∃ k : Nat, k ≤ L.length ∧ i = .int .i64 k ∧ n = .int .i64 ((19 + sizeL (L.take k) : Nat) : Int) ∧ (L.take k).all mayE = true ∧ Mods [] w wr
def RelRz (w : World) (L : List EntP) (v i : Value) (wr : World) : Prop := ∃ k : Nat, k ≤ L.length ∧ i = .int .i64 k ∧ Own2 w wr v (headD ++ le L.length 4 ++ encL (L.take k))
set_option maxRecDepth 100000 in
set_option maxHeartbeats 4000000 in
theorem rencode_any {w : World} (L : List EntP) {v : Value} (h : Ents w v L) (hz : ∀ e ∈ L, Small e) (hlen : L.length ≤ 100000000) :
    Calls Tryz.prog 11 #[v] w (EncPost w (encPR L)) := by
  have H := Lib.hid h
  have HZ := Lib.hid hz
  have HOR := Lib.hid (fun w' (hw : Mods [] w w') (hne : L ≠ []) => rorder_any L (h.mods hw) hz hlen hne)
  have HQ := Lib.hid (show encPR L = if L.all mayE = false then ([], 210) else if L = [] then ([], 210) else if ordR L = false then ([], 211) else if 16777216 < 19 + sizeL L then ([], 11) else (fullD L, 0) from rfl)
  have HSL := Lib.hid (Nat.le_trans (sizeL_le L hz) (Nat.mul_le_mul_right 300000016 hlen))
  obtain ⟨A, c, rfl, -⟩ := h
  obtain ⟨i0, hi, hz0, hz1, hz2⟩ := info_parts info5
  have kc := fun (w : World) (C : Array Value) (n c : Nat) => Lib.run_convert_bytes_const (P := Tryz.prog) w 22 5 C n c Tryz.underlying22 Tryz.underlying5
  clear hz
  generalize hR : encPR L = R at *
  clear hR
  go_enter Tryz.func11, Tryz.ntmps11
  go_wp2_with fail
  go_loopw [4, 5] (fun n i wr => RelSz w L n i wr) (fun _ i _ => L.length - (intOf i).toNat)
  case atStart => exact ⟨0, by omega, rfl, by simp [sizeL], rfl, Mods.refl _ _⟩
  case round =>
    obtain ⟨k, hk, rfl, rfl, hall, hm⟩ := hrel
    have HM := Lib.hid hm
    have HA := Lib.hid hall
    clear hm hall
    rcases Nat.lt_or_ge k L.length with hlt | hge
    · obtain ⟨e, hs⟩ : ∃ e, L[k]? = some e := ⟨_, List.getElem?_eq_getElem hlt⟩
      obtain ⟨g, off, vd, rfl, hrg0, hrd0⟩ := H.out.at hs
      have hsm := HZ.out e (List.mem_of_getElem? hs)
      have HRG := Lib.hid (range_mods hrg0 HM.out (by simp))
      have HSN : Hid (sizeL (L.take (k + 1)) = sizeL (L.take k) + e.size) := Lib.hid (by rw [List.take_add_one, hs]; exact sizeL_snoc _ _)
      have HAN : Hid ((L.take (k + 1)).all mayE = mayE e) := Lib.hid (by rw [List.take_add_one, hs, List.all_append, HA.out]; simp)
      have HFAL : Hid (mayE e = false → L.all mayE = false) := Lib.hid (fun h => by
        rw [List.all_eq_false]
        exact ⟨e, List.mem_of_getElem? hs, by rw [h]; decide⟩)
      have HMAY := Lib.hid (rmay_any e vd wr hsm.toFits (hrd0.mods HM.out (by simp)) (by have := hsm.path; omega) (by have := hsm.gid; omega))
      have HRF := Lib.hid (fun w' (hw : Mods [] wr w') => range_ent (range_mods HRG.out hw (by simp)))
      have hsl := sizeL_take L (k + 1)
      rw [HSN.out] at hsl
      have hsl2 := HSL.out
      obtain ⟨vA, vc, rfl, -⟩ := id hrd0
      clear hrg0 hrd0 hs
      simp only [List.length_map] at *
      simp only [entC] at HRG
      unfold entV at HMAY
      have hes : e.size = 16 + e.path.size + e.gid.size + e.data.length := rfl
      generalize hn0 : sizeL (L.take k) = n0 at *
      generalize mayE e = mq at *
      go_wp2_with (first | (refine wpList_load_mid rfl 47 _ rfl g (off + k * 5) rfl [.string e.path, .int .u32 (e.mode : Int), .int .u32 (e.mtime : Int), .string e.gid, .slice vA e.data.length vc] _ HRG.out Tryz.underlying47 rfl info38t ?_))
      refine HMAY.out.mono ?_
      rintro x w1 ⟨rfl, hm⟩
      obtain ⟨c0, c1, c2, c3, c4⟩ := HRF.out w1 hm
      have HM1 := Lib.hid (HM.out.trans hm (by simp))
      clear hm HMAY HRG HRF
      cases mq
      · have HE : Hid (R = ([], 210)) := Lib.hid (by rw [HQ.out, if_pos (HFAL.out rfl)])
        go_wp2_with fail
        go_ret2
        rw [HE.out]
        exact ⟨_, rfl, World.ownsRow_nil _ _ _ _, HM1.out⟩
      · go_wp2_with (go_quiet (fail))
        exact ⟨⟨k + 1, by omega, rfl, by rw [HSN.out, hes]; congr 1; omega, HAN.out, HM1.out.drewN _⟩, by simp only [intOf]; omega⟩
    · obtain rfl : k = L.length := by omega
      rw [List.take_length] at *
      have hsl2 := HSL.out
      cases L with
      | nil =>
        have HE : Hid (R = ([], 210)) := Lib.hid (by rw [HQ.out, if_neg (by simp), if_pos rfl])
        simp only [List.length_nil] at *
        go_wp2_with fail
        go_ret2
        rw [HE.out]
        exact ⟨_, rfl, World.ownsRow_nil _ _ _ _, HM.out⟩
      | cons e0 L0 =>
      have hLne : e0 :: L0 ≠ [] := by simp
      generalize e0 :: L0 = L at *
      have hl0 : (L.length == 0) = false := by simp [hLne]
      have hl1 : (((L.length : Int) == 0) = false) := by simp [hLne]
      have HOR1 := Lib.hid (HOR.out wr HM.out hLne)
      go_wp2_with fail
      refine HOR1.out.mono ?_
      rintro x w1 ⟨rfl, hm⟩
      have HM1 := Lib.hid (HM.out.trans hm (by simp))
      clear hm HOR1 HOR HM
      cases hord : ordR L
      · have HE : Hid (R = ([], 211)) := Lib.hid (by rw [HQ.out, if_neg (by simp [HA.out]), if_neg hLne, if_pos hord])
        clear hord
        go_wp2_with fail
        go_ret2
        rw [HE.out]
        exact ⟨_, rfl, World.ownsRow_nil _ _ _ _, HM1.out⟩
      by_cases hbig : 16777216 < 19 + sizeL L
      · have HE : Hid (R = ([], 11)) := Lib.hid (by rw [HQ.out, if_neg (by simp [HA.out]), if_neg hLne, if_neg (by simp [hord]), if_pos hbig])
        clear hord
        generalize sizeL L = n0 at *
        have hbig2 : (16777216 : Int) < 19 + (n0 : Int) := by omega
        go_wp2_with fail
        go_ret2
        rw [HE.out]
        exact ⟨_, rfl, World.ownsRow_nil _ _ _ _, HM1.out⟩
      have HE : Hid (R = (fullD L, 0)) := Lib.hid (by rw [HQ.out, if_neg (by simp [HA.out]), if_neg hLne, if_neg (by simp [hord]), if_neg hbig])
      have HBIG : Hid (19 + sizeL L ≤ 16777216) := Lib.hid (by omega)
      have hbig3 : ¬ (16777216 : Int) < ((19 + sizeL L : Nat) : Int) := by omega
      clear hord hbig HQ
      generalize 19 + sizeL L = n0 at hbig3 ⊢
      have HX := Lib.hid (heap_alloc_new w1 (.cells #[.int .u8 118, .int .u8 100, .int .u8 117, .int .u8 109, .int .u8 112, .int .u8 49, .int .u8 10] 5 (7, 8)))
      have HMX := Lib.hid ((Mods.refl [] w1).alloc (.cells #[.int .u8 118, .int .u8 100, .int .u8 117, .int .u8 109, .int .u8 112, .int .u8 49, .int .u8 10] 5 (7, 8)))
      have hcv : (L.length : Int) % 18446744073709551616 = (L.length : Int) := by omega
      go_wp2_with fail
      generalize w1.alloc (.cells #[.int .u8 118, .int .u8 100, .int .u8 117, .int .u8 109, .int .u8 112, .int .u8 49, .int .u8 10] 5 (7, 8)) = w2 at *
      have HM2 := Lib.hid (HM1.out.trans HMX.out (by simp))
      refine (num_first (w := w2) (g := w1.heap.size) headD (fun j u hu => by rw [Addr.add_lit, Nat.zero_add, cell_of_row _ _ _ _ _ _ HX.out]; simpa [headD, byteV] using hu) L.length 4 (by decide) (by decide) (by decide) (by omega)).mono ?_
      rintro x w3 ⟨v', rfl, ho, hm⟩
      have HW3 : Hid (Own2 w w3 v' (headD ++ le L.length 4)) := Lib.hid ⟨ownsRow_base ho HM2.out.size, HM2.out.trans hm (by simp)⟩
      obtain ⟨A3, c3, rfl⟩ := own_ctor ho
      clear ho hm HM1 HX HMX HM2
      go_wp2_with fail
      rw [List.length_append] at HW3
      go_loopw [8, 9] (fun v i wr => RelRz w L v i wr) (fun _ i _ => L.length - (intOf i).toNat)
      case atStart => exact ⟨0, by omega, rfl, by rw [show encL (L.take 0) = [] from rfl, List.append_nil]; exact HW3.out⟩
      case round =>
        obtain ⟨k, hk, rfl, hw⟩ := hrel
        have HW := Lib.hid hw
        have hM0 : (headD ++ le L.length 4 ++ encL (L.take k)).length ≤ 16777216 := by
          have h1 := sizeL_take L k
          have h2 := HBIG.out
          simp only [List.length_append, le_length, encL_length, show headD.length = 7 from rfl]
          omega
        have HNX : Hid (∀ e, L[k]? = some e → headD ++ le L.length 4 ++ encL (L.take (k + 1)) = headD ++ le L.length 4 ++ encL (L.take k) ++ e.enc) := Lib.hid (fun e hs => by
          rw [List.take_add_one, hs]
          show _ ++ encL (L.take k ++ [e]) = _
          rw [encL_snoc, ← List.append_assoc])
        have HFIN : Hid (k = L.length → headD ++ le L.length 4 ++ encL (L.take k) = bodyD L) := Lib.hid (fun h => by rw [h, List.take_length]; rfl)
        generalize headD ++ le L.length 4 ++ encL (L.take k) = M at *
        obtain ⟨A0, b0, rfl⟩ := own_ctor hw.1
        clear hw HW3
        rcases Nat.lt_or_ge k L.length with hlt | hge
        · obtain ⟨e, hs⟩ : ∃ e, L[k]? = some e := ⟨_, List.getElem?_eq_getElem hlt⟩
          obtain ⟨g, off, vd, rfl, hrg0, hrd0⟩ := H.out.at hs
          have HRG := Lib.hid (fun w' (hw : Mods [] w w') => range_ent (range_mods hrg0 hw (by simp)))
          have HRD := Lib.hid (fun w' (hw : Mods [] w w') => hrd0.mods hw (by simp))
          have HNE := Lib.hid (HNX.out e hs)
          have hsm := HZ.out e (List.mem_of_getElem? hs)
          have hps := hsm.path
          have hgs := hsm.gid
          have hds := hsm.data
          have hmo := hsm.mode
          have hmt := hsm.mtime
          obtain ⟨vA, vc, rfl, -⟩ := id hrd0
          rw [List.length_map] at *
          obtain ⟨c0, c1, c2, c3, c4⟩ := HRG.out wr HW.out.2
          have HENC : Hid (M ++ e.enc = M ++ le e.path.size 2 ++ e.path.data.toList ++ le e.mode 4 ++ le e.mtime 4 ++ le e.gid.size 2 ++ e.gid.data.toList ++ le e.data.length 4 ++ e.data) := Lib.hid (by
            simp [EntP.enc, txt, List.append_assoc])
          have hv1 : (e.path.size : Int) % 18446744073709551616 = (e.path.size : Int) := by omega
          have hv2 : (e.gid.size : Int) % 18446744073709551616 = (e.gid.size : Int) := by omega
          have hv3 : (e.data.length : Int) % 18446744073709551616 = (e.data.length : Int) := by omega
          have hv4 : (e.mode : Int) % 18446744073709551616 = (e.mode : Int) := by omega
          have hv5 : (e.mtime : Int) % 18446744073709551616 = (e.mtime : Int) := by omega
          clear hrg0 hrd0 hs HNX HFIN
          go_wp2_with fail
          refine (HW.out.num (e.path.size) 2 (by decide) (by omega) (by omega)).mono ?_
          rintro x z1 ⟨v', rfl, hw⟩
          have HW1 := Lib.hid hw
          obtain ⟨A1, b1, rfl⟩ := own_ctor hw.1
          have hM1 : (M ++ le (e.path.size) 2).length ≤ 16777218 := by rw [List.length_append, le_length]; omega
          obtain ⟨c0, c1, c2, c3, c4⟩ := HRG.out z1 hw.2
          clear hw HW
          generalize hme : M ++ le (e.path.size) 2 = M1 at *
          have HE1 := Lib.hid hme
          clear hme
          go_wp2_with (at_builtin; go_must (refine wpList_app _ rfl _ _ 22 9 rfl w.heap.size 5 i0 (.int .u8 0) 1 1 Tryz.underlying22 hi hz0 hz1 hz2 rfl _ _ _ rfl HW1.out.1 _ (e.path.size) (byteCells e.path) rfl (Src.ofString _ Tryz.underlying9 e.path) (by unfold maxLen; omega) (by omega) HW1.out.2.size ?_))
          intro v2 z2 hown hgrow hat
          have hw := HW1.out.app hown (bs := e.path.data.toList) rfl (by simp) hgrow hat
          have HW2 := Lib.hid hw
          obtain ⟨A2, b2, rfl⟩ := own_ctor hw.1
          have hM2 : (M1 ++ e.path.data.toList).length ≤ 116777218 := by rw [List.length_append]; have : e.path.data.toList.length = e.path.size := (by simp); omega
          obtain ⟨c0, c1, c2, c3, c4⟩ := HRG.out z2 hw.2
          clear hw HW1 hown hgrow hat
          generalize hme : M1 ++ e.path.data.toList = M2 at *
          have HE2 := Lib.hid hme
          clear hme
          go_wp2_with fail
          refine (HW2.out.num (e.mode) 4 (by decide) (by omega) (by omega)).mono ?_
          rintro x z3 ⟨v', rfl, hw⟩
          have HW3 := Lib.hid hw
          obtain ⟨A3, b3, rfl⟩ := own_ctor hw.1
          have hM3 : (M2 ++ le (e.mode) 4).length ≤ 116777222 := by rw [List.length_append, le_length]; omega
          obtain ⟨c0, c1, c2, c3, c4⟩ := HRG.out z3 hw.2
          clear hw HW2
          generalize hme : M2 ++ le (e.mode) 4 = M3 at *
          have HE3 := Lib.hid hme
          clear hme
          go_wp2_with fail
          refine (HW3.out.num (e.mtime) 4 (by decide) (by omega) (by omega)).mono ?_
          rintro x z4 ⟨v', rfl, hw⟩
          have HW4 := Lib.hid hw
          obtain ⟨A4, b4, rfl⟩ := own_ctor hw.1
          have hM4 : (M3 ++ le (e.mtime) 4).length ≤ 116777226 := by rw [List.length_append, le_length]; omega
          obtain ⟨c0, c1, c2, c3, c4⟩ := HRG.out z4 hw.2
          clear hw HW3
          generalize hme : M3 ++ le (e.mtime) 4 = M4 at *
          have HE4 := Lib.hid hme
          clear hme
          go_wp2_with fail
          refine (HW4.out.num (e.gid.size) 2 (by decide) (by omega) (by omega)).mono ?_
          rintro x z5 ⟨v', rfl, hw⟩
          have HW5 := Lib.hid hw
          obtain ⟨A5, b5, rfl⟩ := own_ctor hw.1
          have hM5 : (M4 ++ le (e.gid.size) 2).length ≤ 116777228 := by rw [List.length_append, le_length]; omega
          obtain ⟨c0, c1, c2, c3, c4⟩ := HRG.out z5 hw.2
          clear hw HW4
          generalize hme : M4 ++ le (e.gid.size) 2 = M5 at *
          have HE5 := Lib.hid hme
          clear hme
          go_wp2_with (at_builtin; go_must (refine wpList_app _ rfl _ _ 22 9 rfl w.heap.size 5 i0 (.int .u8 0) 1 1 Tryz.underlying22 hi hz0 hz1 hz2 rfl _ _ _ rfl HW5.out.1 _ (e.gid.size) (byteCells e.gid) rfl (Src.ofString _ Tryz.underlying9 e.gid) (by unfold maxLen; omega) (by omega) HW5.out.2.size ?_))
          intro v2 z6 hown hgrow hat
          have hw := HW5.out.app hown (bs := e.gid.data.toList) rfl (by simp) hgrow hat
          have HW6 := Lib.hid hw
          obtain ⟨A6, b6, rfl⟩ := own_ctor hw.1
          have hM6 : (M5 ++ e.gid.data.toList).length ≤ 216777228 := by rw [List.length_append]; have : e.gid.data.toList.length = e.gid.size := (by simp); omega
          obtain ⟨c0, c1, c2, c3, c4⟩ := HRG.out z6 hw.2
          clear hw HW5 hown hgrow hat
          generalize hme : M5 ++ e.gid.data.toList = M6 at *
          have HE6 := Lib.hid hme
          clear hme
          go_wp2_with fail
          refine (HW6.out.num (e.data.length) 4 (by decide) (by omega) (by omega)).mono ?_
          rintro x z7 ⟨v', rfl, hw⟩
          have HW7 := Lib.hid hw
          obtain ⟨A7, b7, rfl⟩ := own_ctor hw.1
          have hM7 : (M6 ++ le (e.data.length) 4).length ≤ 216777232 := by rw [List.length_append, le_length]; omega
          obtain ⟨c0, c1, c2, c3, c4⟩ := HRG.out z7 hw.2
          clear hw HW6
          generalize hme : M6 ++ le (e.data.length) 4 = M7 at *
          have HE7 := Lib.hid hme
          clear hme
          go_wp2_with (at_builtin; go_must (refine wpList_app _ rfl _ _ 22 22 rfl w.heap.size 5 i0 (.int .u8 0) 1 1 Tryz.underlying22 hi hz0 hz1 hz2 rfl _ _ _ rfl HW7.out.1 _ (e.data.length) (e.data.map byteV) rfl (by have := (HRD.out z7 HW7.out.2).src Tryz.underlying22 (bytes_one e.data); rwa [List.length_map] at this) (by unfold maxLen; omega) (by omega) HW7.out.2.size ?_))
          intro v2 z8 hown hgrow hat
          have hw := HW7.out.app hown (bs := e.data) rfl rfl hgrow hat
          have HW8 := Lib.hid hw
          obtain ⟨A8, b8, rfl⟩ := own_ctor hw.1
          have hM8 : (M7 ++ e.data).length ≤ 316777232 := by rw [List.length_append]; have : e.data.length = e.data.length := rfl; omega
          obtain ⟨c0, c1, c2, c3, c4⟩ := HRG.out z8 hw.2
          clear hw HW7 hown hgrow hat
          generalize hme : M7 ++ e.data = M8 at *
          have HE8 := Lib.hid hme
          clear hme
          go_wp2_with fail
          have HT : Hid (M8 = headD ++ le L.length 4 ++ encL (L.take (k + 1))) := Lib.hid (by rw [HNE.out, HENC.out])
          exact ⟨⟨k + 1, by omega, rfl, by rw [← HT.out]; exact HW8.out⟩, by simp only [intOf]; omega⟩
        · obtain rfl : k = L.length := by omega
          obtain rfl := HFIN.out rfl
          have HS := Lib.hid (summed_any (bodyD L) HW.out.1 HW.out.2.size (by omega))
          have HGR := Lib.hid (fun (w' : World) v' N (g : Grew w.heap.size wr (.slice A0 (bodyD L).length b0) N v' w') => HW.out.grew g)
          have HFU : Hid (fullD L = bodyD L ++ le (sumD (bodyD L)) 8) := Lib.hid rfl
          generalize bodyD L = bd at *
          go_wp2_with fail
          refine HS.out.mono ?_
          rintro x z ⟨v2, rfl, hg⟩
          have hw := HGR.out _ _ _ hg
          rw [← HFU.out] at hw
          have HWZ := Lib.hid hw
          obtain ⟨A1, b1, rfl⟩ := own_ctor hw.1
          clear hw hg HGR HS
          go_wp2_with fail
          go_ret2
          rw [HE.out]
          exact ⟨_, rfl, HWZ.out⟩

end Go.Proofs.YtmcekhgmmocajaaGreatDoor
namespace Go.Proofs.YtmcekhgmmocajaaGreatDoor
open Go.RowKit Me

theorem upB_above (p : List ByteArray) : upB p = aboveB p := by
  unfold upB aboveB joinP
  by_cases h : 1 < p.length
  · have : p.dropLast.isEmpty = false := by
      rw [List.isEmpty_eq_false_iff]
      intro h0
      have := congrArg List.length h0
      rw [List.length_dropLast] at this
      simp at this
      omega
    rw [if_pos h, if_neg (by decide), this, if_neg (by decide)]
  · have : p.dropLast = [] := List.eq_nil_of_length_eq_zero (by rw [List.length_dropLast]; omega)
    rw [if_neg h, if_neg (by decide), this, if_pos (by rfl)]
theorem dirs_of_dirAt {l : List EntP} {s : ByteArray} (h : dirAt l s = true) : dirsN l s ≠ 0 := by
  unfold dirAt at h
  cases hf : l.findIdx? (fun e => e.path.toList == s.toList) with
  | none => rw [hf] at h; cases h
  | some i =>
    rw [hf] at h
    simp only at h
    cases hd : l[i]? with
    | none => rw [hd] at h; cases h
    | some d =>
      rw [hd] at h
      simp only at h
      obtain ⟨hi, hp, _⟩ := List.findIdx?_eq_some_iff_getElem.1 hf
      have hdi : l[i] = d := by rw [List.getElem?_eq_getElem hi] at hd; exact Option.some.inj hd
      rw [hdi] at hp
      unfold dirsN
      intro h0
      have h1 := List.eq_nil_of_length_eq_zero h0
      have h2 : d ∈ l.filter (fun e => isDirN e.mode && decide (s.data.toList = e.path.data.toList)) := by
        rw [List.mem_filter]
        refine ⟨hdi ▸ List.getElem_mem hi, ?_⟩
        have hp2 := eq_of_beq hp
        rw [Lib.toList_data, Lib.toList_data] at hp2
        simp [h, hp2]
      rw [h1] at h2
      cases h2
theorem may_parts {e : EntP} (h : mayE e = true) : partsP e.path = partsR e.path := by
  unfold mayE pathOk at h
  simp only [Bool.and_eq_true, Bool.not_eq_true'] at h
  obtain ⟨⟨⟨⟨⟨⟨h1, h2⟩, h3⟩, h4⟩, h5⟩, h6⟩, h7⟩ := h
  refine parts_same _ h1 ?_ h3
  have h2 := eq_of_beq h2
  rw [Lib.toList_data, Lib.toList_data] at h2
  exact data_inj h2
theorem ord_of_ref (L : List EntP) (hall : L.all mayE = true) (h : ordR L = true) : ordE L = true := by
  unfold ordR at h
  rw [Bool.and_eq_true] at h
  obtain ⟨h0, h1⟩ := h
  have hm : ∀ (k : Nat) (e : EntP), L[k]? = some e → partsP e.path = partsR e.path := fun k e he => may_parts (List.all_eq_true.1 hall e (List.mem_of_getElem? he))
  unfold ordE
  rw [List.all_eq_true]
  intro k hk
  rw [List.mem_range] at hk
  obtain ⟨e, he⟩ : ∃ e, L[k]? = some e := ⟨_, List.getElem?_eq_getElem hk⟩
  rw [he]
  show ordAt (L.take k) e = true
  cases k with
  | zero =>
    rw [he] at h0
    simp only at h0
    unfold ordAt partsP
    rw [if_pos h0]
    rfl
  | succ j =>
    obtain ⟨x, hx⟩ : ∃ x, L[j]? = some x := ⟨_, List.getElem?_eq_getElem (by omega)⟩
    unfold ordRTo at h1
    have h2 := List.all_eq_true.1 h1 j (by rw [List.mem_range]; omega)
    unfold ordRAt at h2
    rw [hx, he] at h2
    simp only [Bool.and_eq_true, decide_eq_true_eq] at h2
    have hlast : (L.take (j + 1)).getLast? = some x := by
      rw [List.getLast?_eq_getElem?, List.length_take, Nat.min_eq_left (by omega), List.getElem?_take, if_pos (by omega)]
      exact hx
    unfold ordAt
    rw [hlast]
    simp only
    rw [hm _ _ he, hm _ _ hx, upB_above]
    have hne : partsR e.path ≠ [] := fun h => cmpL_nil _ (by rw [h] at h2; exact h2.1)
    have h3 := dirs_of_dirAt h2.2
    simp [h2.1, h3, hne]
theorem enc_of_ref {L : List EntP} (h : (encPR L).2 = 0) : encP L = (fullD L, 0) := by
  unfold encPR at h
  by_cases h1 : L.all mayE = false
  · rw [if_pos h1] at h; cases h
  rw [if_neg h1] at h
  by_cases h2 : L = []
  · rw [if_pos h2] at h; cases h
  rw [if_neg h2] at h
  by_cases h3 : ordR L = false
  · rw [if_pos h3] at h; cases h
  rw [if_neg h3] at h
  by_cases h4 : 16777216 < 19 + sizeL L
  · rw [if_pos h4] at h; cases h
  have h5 := ord_of_ref L (by simpa using h1) (by simpa using h3)
  unfold encP
  rw [if_neg (by simp [h1, h2]), if_neg (by simp [h5]), if_neg h4]
end Go.Proofs.YtmcekhgmmocajaaGreatDoor
namespace Go.Proofs.YtmcekhgmmocajaaGreatDoor
open Go.RowKit Me

theorem less_trans : ∀ (a b c : List UInt8), Op.bytesLess a b = true → Op.bytesLess b c = true → Op.bytesLess a c = true
  | a, [], c, h, _ => by cases a <;> simp [Op.bytesLess] at h
  | a, _ :: _, [], _, h => by simp [Op.bytesLess] at h
  | [], _ :: _, _ :: _, _, _ => by simp [Op.bytesLess]
  | x :: a, y :: b, z :: c, h, k => by
    simp only [Op.bytesLess, Bool.or_eq_true, Bool.and_eq_true, decide_eq_true_eq, beq_iff_eq] at h k ⊢
    rcases h with h | ⟨rfl, h⟩
    · rcases k with k | ⟨rfl, k⟩
      · left
        rw [UInt8.lt_iff_toNat_lt] at *
        omega
      · exact Or.inl h
    · rcases k with k | ⟨rfl, k⟩
      · exact Or.inl k
      · exact Or.inr ⟨rfl, less_trans a b c h k⟩
theorem cmpB_cases (a b : ByteArray) : (cmpB a b = 0 ∧ a = b) ∨ (cmpB a b < 0 ∧ lessB a b = true) ∨ 0 < cmpB a b := by
  unfold cmpB
  cases h : lessB a b
  · cases h2 : a.toList == b.toList
    · right; right; simp
    · left
      have e := eq_of_beq h2
      rw [Lib.toList_data, Lib.toList_data] at e
      exact ⟨by simp, data_inj e⟩
  · right; left; simp
theorem cmpB_self (a : ByteArray) : cmpB a a = 0 := cmpB_eq (by simp)
theorem cmpL_self : ∀ l : List ByteArray, cmpL l l = 0
  | [] => rfl
  | a :: l => by
    unfold cmpL
    rw [if_pos (cmpB_self a)]
    exact cmpL_self l
theorem cmpL_trans : ∀ (l m n : List ByteArray), cmpL l m < 0 → cmpL m n < 0 → cmpL l n < 0
  | l, [], n, h, _ => absurd h (cmpL_nil l)
  | l, b :: m, [], _, h => absurd h (cmpL_nil _)
  | [], b :: m, c :: n, _, _ => by unfold cmpL; decide
  | a :: l, b :: m, c :: n, h, k => by
    unfold cmpL at h k ⊢
    rcases cmpB_cases a b with ⟨h1, rfl⟩ | ⟨h1, h2⟩ | h1
    · rw [if_pos h1] at h
      rcases cmpB_cases a c with ⟨k1, rfl⟩ | ⟨k1, k2⟩ | k1
      · rw [if_pos k1] at k ⊢
        exact cmpL_trans l m n h k
      · rw [if_neg (by omega)]
        exact k1
      · rw [if_neg (by omega)] at k
        omega
    · rcases cmpB_cases b c with ⟨k1, rfl⟩ | ⟨k1, k2⟩ | k1
      · rw [if_neg (by omega)]
        exact h1
      · have h3 : lessB a c = true := less_trans _ _ _ h2 k2
        have h4 : cmpB a c = -1 := by unfold cmpB; rw [if_pos h3]
        rw [if_neg (by omega)]
        omega
      · rw [if_neg (by omega)] at k
        omega
    · rw [if_neg (by omega)] at h
      omega
theorem ord_lt {L : List EntP} (h : ∀ (k : Nat) (x e : EntP), L[k]? = some x → L[k + 1]? = some e → cmpL (partsP x.path) (partsP e.path) < 0) :
    ∀ (j i : Nat) (x e : EntP), L[i]? = some x → L[i + j + 1]? = some e → cmpL (partsP x.path) (partsP e.path) < 0
  | 0, i, x, e, hx, he => h i x e hx he
  | j + 1, i, x, e, hx, he => by
    have hl := (List.getElem?_eq_some_iff.1 he).1
    obtain ⟨y, hy⟩ : ∃ y, L[i + j + 1]? = some y := ⟨_, List.getElem?_eq_getElem (by omega)⟩
    exact cmpL_trans _ _ _ (ord_lt h j i x y hx hy) (h (i + j + 1) y e hy he)
theorem dirAt_of {l : List EntP} {s : ByteArray} (hd : dirsN l s ≠ 0) (hu : ∀ (i j : Nat) (x e : EntP), l[i]? = some x → l[j]? = some e → x.path = e.path → i = j) : dirAt l s = true := by
  unfold dirsN at hd
  obtain ⟨d, hm⟩ := List.exists_mem_of_length_pos (Nat.pos_of_ne_zero hd)
  rw [List.mem_filter, Bool.and_eq_true, decide_eq_true_eq] at hm
  obtain ⟨h1, h2, h3⟩ := hm
  obtain ⟨j, hj⟩ := List.mem_iff_getElem?.1 h1
  have hs : s = d.path := data_inj h3
  subst hs
  unfold dirAt
  cases hf : l.findIdx? (fun e => e.path.toList == d.path.toList) with
  | none =>
    exfalso
    rw [List.findIdx?_eq_none_iff] at hf
    have := hf d h1
    simp at this
  | some i =>
    obtain ⟨hi, hp, _⟩ := List.findIdx?_eq_some_iff_getElem.1 hf
    have hp2 := eq_of_beq hp
    rw [Lib.toList_data, Lib.toList_data] at hp2
    have := hu i j l[i] d (List.getElem?_eq_getElem hi) hj (data_inj hp2)
    subst this
    simp only
    rw [hj]
    exact h2
theorem ref_of_ord (L : List EntP) (hall : L.all mayE = true) (hne : L ≠ []) (h : ordE L = true) : ordR L = true := by
  have hm : ∀ (k : Nat) (e : EntP), L[k]? = some e → partsP e.path = partsR e.path := fun k e he => may_parts (List.all_eq_true.1 hall e (List.mem_of_getElem? he))
  unfold ordE at h
  rw [List.all_eq_true] at h
  have hk : ∀ (k : Nat) (e : EntP), L[k]? = some e → ordAt (L.take k) e = true := fun k e he => by
    have h1 := h k (List.mem_range.2 (List.getElem?_eq_some_iff.1 he).1)
    rw [he] at h1
    exact h1
  have hlast : ∀ (j : Nat) (x : EntP), L[j]? = some x → (L.take (j + 1)).getLast? = some x := fun j x hx => by
    have := (List.getElem?_eq_some_iff.1 hx).1
    rw [List.getLast?_eq_getElem?, List.length_take, Nat.min_eq_left (by omega), List.getElem?_take, if_pos (by omega)]
    exact hx
  have hstep : ∀ (j : Nat) (x e : EntP), L[j]? = some x → L[j + 1]? = some e → dirsN (L.take (j + 1)) (upB (partsP e.path)) ≠ 0 ∧ cmpL (partsP x.path) (partsP e.path) < 0 := fun j x e hx he => by
    have h1 := hk (j + 1) e he
    unfold ordAt at h1
    rw [hlast j x hx] at h1
    simp only [Bool.and_eq_true, decide_eq_true_eq] at h1
    exact ⟨h1.2.1, h1.2.2⟩
  have hlt := ord_lt (L := L) (fun k x e hx he => (hstep k x e hx he).2)
  have huniq : ∀ (i j : Nat) (x e : EntP), L[i]? = some x → L[j]? = some e → x.path = e.path → i = j := fun i j x e hx he hp => by
    rcases Nat.lt_trichotomy i j with hij | hij | hij
    · have := hlt (j - i - 1) i x e hx (by rw [show i + (j - i - 1) + 1 = j by omega]; exact he)
      rw [hp, cmpL_self] at this
      omega
    · exact hij
    · have := hlt (i - j - 1) j e x he (by rw [show j + (i - j - 1) + 1 = i by omega]; exact hx)
      rw [hp, cmpL_self] at this
      omega
  unfold ordR
  rw [Bool.and_eq_true]
  obtain ⟨e0, he0⟩ : ∃ e, L[0]? = some e := ⟨_, List.getElem?_eq_getElem (List.length_pos_iff.2 hne)⟩
  refine ⟨?_, ?_⟩
  · have h1 := hk 0 e0 he0
    rw [he0]
    show (e0.path.toList == [46]) = true
    unfold ordAt partsP at h1
    by_cases hp : (e0.path.toList == [46]) = true
    · exact hp
    · rw [if_neg hp] at h1
      simp only [List.take_zero, List.getLast?_nil, List.isEmpty_iff] at h1
      exact absurd h1 (pieces_ne _)
  · unfold ordRTo
    rw [List.all_eq_true]
    intro j hj
    rw [List.mem_range] at hj
    obtain ⟨x, hx⟩ : ∃ x, L[j]? = some x := ⟨_, List.getElem?_eq_getElem (by omega)⟩
    obtain ⟨e, he⟩ : ∃ e, L[j + 1]? = some e := ⟨_, List.getElem?_eq_getElem (by omega)⟩
    obtain ⟨h1, h2⟩ := hstep j x e hx he
    unfold ordRAt
    rw [hx, he]
    simp only [Bool.and_eq_true, decide_eq_true_eq]
    rw [← hm _ _ hx, ← hm _ _ he, ← upB_above]
    refine ⟨h2, dirAt_of h1 fun a b p q hp hq hpq => huniq a b p q ?_ ?_ hpq⟩
    · rw [List.getElem?_take] at hp
      split at hp
      · exact hp
      · cases hp
    · rw [List.getElem?_take] at hq
      split at hq
      · exact hq
      · cases hq
/-- The program and the reference write the same. -/
theorem encPR_eq (L : List EntP) : encPR L = encP L := by
  unfold encPR encP
  cases hall : L.all mayE
  · rw [if_pos rfl, if_pos (Or.inr rfl)]
  · rw [if_neg (by decide)]
    by_cases hne : L = []
    · rw [if_pos hne, if_pos (Or.inl hne)]
    · rw [if_neg hne, if_neg (show ¬ (L = [] ∨ true = false) from by simp [hne])]
      have : ordR L = ordE L := by
        cases h : ordE L
        · cases h2 : ordR L
          · rfl
          · rw [ord_of_ref L hall h2] at h
            cases h
        · exact ref_of_ord L hall hne h
      rw [this]
end Go.Proofs.YtmcekhgmmocajaaGreatDoor
