/- vergerref02's num: a number onto a row of bytes. -/
import Derived.Test.YtedddekkbgaolaaDoorWa
namespace Go.Proofs.YtedddekkbgaolaaDoor
open Go.RowKit Me

/-- A row of bytes of one's own has gone on from v in w: it bears L now. -/
def Grew (B : Nat) (w : World) (v : Value) (L : List UInt8) (v' : Value) (w' : World) : Prop :=
  w'.ownsRow B 5 1 v' L.length (L.map byteV) ∧ Mods v.ownBlock.toList w w' ∧ (v'.ownBlock = v.ownBlock ∨ ∃ k, v'.ownBlock = some k ∧ w.heap.size ≤ k)
theorem Grew.refl {B : Nat} {w : World} {v : Value} {L : List UInt8} (h : w.ownsRow B 5 1 v L.length (L.map byteV)) : Grew B w v L v w := ⟨h, Mods.refl _ _, Or.inl rfl⟩
theorem Grew.trans {B : Nat} {w w1 w2 : World} {v v1 v2 : Value} {L M : List UInt8} (h : Grew B w v L v1 w1) (k : Grew B w1 v1 M v2 w2) : Grew B w v M v2 w2 := by
  obtain ⟨h1, h2, h3⟩ := h
  obtain ⟨k1, k2, k3⟩ := k
  refine ⟨k1, h2.trans k2 (fun b hb => ?_), ?_⟩
  · rcases h3 with e | ⟨j, e, hj⟩
    · rw [e] at hb
      exact Or.inl hb
    · rw [e] at hb
      simp at hb
      subst hb
      exact Or.inr hj
  · rcases k3 with e | ⟨j, e, hj⟩
    · rw [e]
      exact h3
    · exact Or.inr ⟨j, e, Nat.le_trans h2.size hj⟩
/-- One append more, behind a new block. -/
theorem Grew.app {B : Nat} {w w1 w2 : World} {v v1 v2 : Value} {L bs : List UInt8} {m : Nat} {news : List Value} (h : Grew B w v L v1 w1) (o : Obj) (hown : w2.ownsRow B 5 1 v2 (L.length + m) (L.map byteV ++ news)) (hn : news = bs.map byteV) (hm : m = bs.length)
    (hg : (w1.alloc o).grownBy w2 v1.ownBlock) (h2 : v2.ownBlock = v1.ownBlock ∨ v2.ownBlock = some (w1.heap.size + 1)) : Grew B w v (L ++ bs) v2 w2 := by
  subst hn
  subst hm
  refine h.trans (M := L ++ bs) ⟨by simpa using hown, ((Mods.refl _ _).alloc o).grown hg (fun b hb => Or.inl (by rw [hb]; simp)), ?_⟩
  rcases h2 with e | e
  · exact Or.inl e
  · exact Or.inr ⟨_, e, by omega⟩
theorem Grew.app0 {B : Nat} {w w1 w2 : World} {v v1 v2 : Value} {L bs : List UInt8} {m : Nat} {news : List Value} (h : Grew B w v L v1 w1) (hown : w2.ownsRow B 5 1 v2 (L.length + m) (L.map byteV ++ news)) (hn : news = bs.map byteV) (hm : m = bs.length)
    (hg : w1.grownBy w2 v1.ownBlock) (h2 : v2.ownBlock = v1.ownBlock ∨ v2.ownBlock = some w1.heap.size) : Grew B w v (L ++ bs) v2 w2 := by
  subst hn
  subst hm
  refine h.trans (M := L ++ bs) ⟨by simpa using hown, (Mods.refl _ _).grown hg (fun b hb => Or.inl (by rw [hb]; simp)), ?_⟩
  rcases h2 with e | e
  · exact Or.inl e
  · exact Or.inr ⟨_, e, by omega⟩
def RelNum (B : Nat) (w : World) (v : Value) (L : List UInt8) (n k : Nat) (v' x i : Value) (wr : World) : Prop :=
  ∃ j q : Nat, j ≤ k ∧ i = .int .i64 j ∧ x = .int .u64 (q : Int) ∧ q = n / 256 ^ j ∧ Grew B w v (L ++ le n j) v' wr
def NumPost (B : Nat) (w : World) (v : Value) (L : List UInt8) (e : Ending) (w' : World) : Prop := ∃ v', e = .returned v' ∧ Grew B w v L v' w'
set_option maxRecDepth 100000 in
set_option maxHeartbeats 1000000 in
theorem num_any {B : Nat} {w : World} {v : Value} (L : List UInt8) (hv : w.ownsRow B 5 1 v L.length (L.map byteV)) (hB : B ≤ w.heap.size) (n k : Nat) (hk : k ≤ 8) (hL : L.length ≤ 100000000) (hn : n < 18446744073709551616) :
    Calls Tryd.prog 144 #[v, .int .u64 (n : Int), .int .i64 (k : Int)] w (NumPost B w v (L ++ le n k)) := by
  have H0 := Lib.hid (Grew.refl hv)
  have HN := Lib.hid hn
  clear hv hn
  obtain ⟨i0, hi, hz0, hz1, hz2⟩ := info_parts info5
  go_enter Tryd.func144, Tryd.ntmps144
  go_wp2_with fail
  go_loopw [0, 1, 7] (fun v' x i wr => RelNum B w v L n k v' x i wr) (fun _ _ i _ => k - (intOf i).toNat)
  case atStart => exact ⟨0, n, by omega, rfl, rfl, by simp, by simpa [le] using H0.out⟩
  case round =>
    obtain ⟨j, q, hj, rfl, rfl, hq, hg⟩ := hrel
    have HQ := Lib.hid hq
    have HG := Lib.hid hg
    have hqn : q < 18446744073709551616 := Nat.lt_of_le_of_lt (by rw [hq]; exact Nat.div_le_self _ _) HN.out
    have hlen : (L ++ le n j).length ≤ 100000008 := by rw [List.length_append, le_length]; omega
    generalize hM : L ++ le n j = M at *
    have HM := Lib.hid hM
    obtain ⟨A, c, rfl⟩ := own_ctor hg.1
    clear hg hq hM
    have hsz := HG.out.2.1.size
    have HQN := Lib.hid hqn
    clear hqn
    rcases Nat.lt_or_ge j k with hlt | hge
    · go_wp2_with (at_builtin; go_must (refine wpList_app _ rfl _ _ 43 43 rfl B 5 i0 (.int .u8 0) 1 1 Tryd.underlying43 hi hz0 hz1 hz2 rfl _ _ _ rfl (HG.out.1.alloc _) _ 1 [.int .u8 ((q : Int) % 256)] rfl ?c1 ?c2 ?c3 ?c4 ?_))
      case c1 => exact src_one Tryd.underlying43 _ _ _ rfl
      case c2 => unfold maxLen; omega
      case c3 => omega
      case c4 => simp; omega
      intro v1 w1 hown hgrow hat
      have hG := HG.out.app _ hown (bs := [UInt8.ofNat q]) (by simp [byteV_mod]) rfl hgrow (by simpa using hat)
      rw [← HM.out, List.append_assoc, HQ.out, ← le_snoc] at hG
      have HG1 := Lib.hid hG
      have HR : Hid (RelNum B w v L n k v1 (.int .u64 (IntKind.u64.wrap ((q : Int) / 256))) (.int .i64 ((j : Int) + 1)) w1) := Lib.hid ⟨j + 1, q / 256, by omega, rfl, by rw [IntKind.wrap_u64]; have := HQN.out; congr 1; omega, by rw [HQ.out, Nat.div_div_eq_div_mul, ← Nat.pow_succ], hG⟩
      obtain ⟨A1, c1, rfl⟩ := own_ctor hG.1
      clear hG hown hgrow hat
      go_wp2_with fail
      exact ⟨HR.out, by simp [intOf]; omega⟩
    · obtain rfl : j = k := by omega
      go_wp2_with fail
      go_ret
      refine ⟨_, rfl, ?_⟩
      rw [HM.out]
      exact HG.out
end Go.Proofs.YtedddekkbgaolaaDoor
