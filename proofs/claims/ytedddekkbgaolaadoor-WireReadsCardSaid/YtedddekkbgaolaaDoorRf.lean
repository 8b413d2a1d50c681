/- Two rows of readers, the hand and the Book as one piece; the walk of reads (printed by wip/bin/genrd.py) and of many; turn, ends; a call of a Go function inside a region that draws. -/
import Derived.Test.YtedddekkbgaolaaDoorRx
import Derived.Test.YtedddekkbgaolaaDoorLk
import Derived.Test.YtedddekkbgaolaaDoorTn
import Derived.Test.YtedddekkbgaolaaDoorMu
namespace Go.Proofs.YtedddekkbgaolaaDoor
open Go.RowKit Me

def Hn (hb : Nat) (cs : Array Value) (vr vv : Value) (xs ys : List Value) : Pc := (Pc.blk hb (.cells cs 59)).star ((Pc.row 61 1 vr xs.length xs).star (Pc.row 64 1 vv ys.length ys))
def StR (hb b : Nat) (vr vv : Value) (P : List RQ) (E : List En) (H I : List It) : Pc :=
  (RsP 130 (P.map RQ.w)).star ((RsP 132 (P.map RQ.d)).star ((BkA b E H I).star (Hn hb #[vr, vv, .pointer (some ⟨b, 0, none⟩)] vr vv (P.map RQ.p) (P.map RQ.q))))
/-- What a step leaves. -/
def RdOut (hb b : Nat) (P : List RQ) (E : List En) (H : List It) (w0 w' : World) : Prop :=
  ∃ (vr vv : Value) (P' : List RQ) (I : List It), P.length ≤ P'.length ∧ P'.length ≤ P.length + 1 ∧ (∀ y ∈ P', y.S.bytes.length ≤ 33554432) ∧ I.length ≤ 1 ∧ (∀ i ∈ I, i.bs.length ≤ 33554432) ∧ Post (StR hb b vr vv P' E H I) w0 [] w'
section
variable {w0 w : World} {F : List Nat} {hb b : Nat} {cs : Array Value} {vr vv : Value} {xs ys : List Value} {R : Pc}
theorem Hn.cells (h : Post ((Hn hb cs vr vv xs ys).star R) w0 F w) : w.heap[hb]? = some (.cells cs 59) := h.blkAt ((Pc.Ent.left _ _).trans (Pc.Ent.left _ _))
theorem Hn.r (h : Post ((Hn hb cs vr vv xs ys).star R) w0 F w) : w.ownsRow 0 61 1 vr xs.length xs := h.rowAt ((Pc.Ent.left _ _).trans ((Pc.Ent.right _ _).trans (Pc.Ent.left _ _)))
theorem Hn.v (h : Post ((Hn hb cs vr vv xs ys).star R) w0 F w) : w.ownsRow 0 64 1 vv ys.length ys := h.rowAt ((Pc.Ent.left _ _).trans ((Pc.Ent.right _ _).trans (Pc.Ent.right _ _)))
theorem Hn.set (h : Post ((Hn hb cs vr vv xs ys).star R) w0 F w) (i : Nat) (u : Value) : Post ((Hn hb (cs.setIfInBounds i u) vr vv xs ys).star R) w0 F (w.setCell ⟨hb, i, none⟩ u) :=
  ((h.ent (Pc.Ent.assoc _ _ _)).step (blk_turn u)).ent (Pc.Ent.assoc' _ _ _)
theorem ent_hr (k r v z : Pc) : Pc.Ent ((k.star (r.star v)).star z) (r.star ((k.star v).star z)) := ((Pc.Ent.swap k r v).mono (Pc.Ent.refl z)).trans (Pc.Ent.assoc _ _ _)
theorem ent_hr' (k r v z : Pc) : Pc.Ent (r.star ((k.star v).star z)) ((k.star (r.star v)).star z) := (Pc.Ent.assoc' _ _ _).trans ((Pc.Ent.swap r k v).mono (Pc.Ent.refl z))
theorem Hn.pushr (h : Post ((Hn hb cs vr vv xs ys).star R) w0 F w) {vr' : Value} {x : Value} {w' : World} (ht : ∀ F1, (Pc.row 61 1 vr xs.length xs).A w F1 → Post (Pc.row 61 1 vr' (xs.length + 1) (xs ++ [x])) w F1 w') : Post ((Hn hb cs vr' vv (xs ++ [x]) ys).star R) w0 F w' := by
  have h1 := ((h.ent (ent_hr _ _ _ _)).step ht).ent (ent_hr' _ _ _ _)
  have e : (xs ++ [x]).length = xs.length + 1 := by simp
  unfold Hn
  rw [e]
  exact h1
theorem Hn.pushv (h : Post ((Hn hb cs vr vv xs ys).star R) w0 F w) {vv' : Value} {y : Value} {w' : World} (ht : ∀ F1, (Pc.row 64 1 vv ys.length ys).A w F1 → Post (Pc.row 64 1 vv' (ys.length + 1) (ys ++ [y])) w F1 w') : Post ((Hn hb cs vr vv' xs (ys ++ [y])).star R) w0 F w' := by
  have e1 (k r v : Pc) : Pc.Ent (k.star (r.star v)) (k.star (v.star r)) := (Pc.Ent.refl k).mono (Pc.Ent.comm r v)
  have h1 := ((((h.ent ((e1 _ _ _).mono (Pc.Ent.refl _))).ent (ent_hr _ _ _ _)).step ht).ent (ent_hr' _ _ _ _)).ent ((e1 _ _ _).mono (Pc.Ent.refl _))
  have e : (ys ++ [y]).length = ys.length + 1 := by simp
  unfold Hn
  rw [e]
  exact h1
theorem hand3 {x0 x1 x2 : Value} (h : w.heap[hb]? = some (.cells #[x0, x1, x2] 59 (0, 0))) : w.cell? ⟨hb, 0, none⟩ = some x0 ∧ w.cell? ⟨hb, 1, none⟩ = some x1 ∧ w.cell? ⟨hb, 2, none⟩ = some x2 ∧ w.frozen? ⟨hb, 0, none⟩ = false ∧ w.frozen? ⟨hb, 1, none⟩ = false := by
  refine ⟨?_, ?_, ?_, frozen_of_row _ _ _ _ _ h, frozen_of_row _ _ _ _ _ h⟩ <;> (rw [cell_of_row _ _ _ _ _ _ h]; rfl)
/-- Bytes that came out are given to the Book. -/
theorem Post.owns {E : List En} {H : List It} {v : Value} {bs : List UInt8} (h : Post ((rowOf v bs).star ((BkA b E H []).star R)) w0 F w) (hl : bs.length ≤ 100000000) :
    Calls Tryd.prog 84 #[.pointer (some ⟨b, 0, none⟩), v] w fun e w' => e = .returned (.tuple #[]) ∧ ∃ I : List It, I.map It.bs = [bs] ∧ Post ((BkA b E H I).star R) w0 F w' := by
  have h1 := h.ent ((Pc.Ent.refl _).mono (bkA_open.mono (Pc.Ent.refl _)))
  obtain ⟨F9, ⟨F1, F2, hr, ⟨F3, F4, ⟨⟨vl, vm, vh, vt⟩, hk⟩, hR, n1, rfl⟩, n2, rfl⟩, m1, m2⟩ := h1
  have h2 : Post ((rowOf v bs).star (((BkN b vl vm vh vt (([] : List It).map It.bs)).star (BkS vl vm vh vt E H)).star R)) w0 F w := ⟨_, ⟨F1, _, hr, ⟨F3, F4, hk, hR, n1, rfl⟩, n2, rfl⟩, m1, m2⟩
  have h3 := h2.ent (((Pc.Ent.refl _).mono (Pc.Ent.assoc _ _ _)).trans (Pc.Ent.assoc' _ _ _))
  refine (h3.call fun F1 hF => owns_any hF hl (by simp)).mono ?_
  rintro e w' ⟨he, hp⟩
  have h4 := (hp.ent (Pc.Ent.assoc' _ _ _)).ent (bkA_shut.mono (Pc.Ent.refl _))
  obtain ⟨F9, ⟨F1, F2, ⟨I, hI, hk⟩, hR, n1, rfl⟩, m1, m2⟩ := h4
  exact ⟨he, I, by simpa using hI, _, ⟨F1, F2, hk, hR, n1, rfl⟩, m1, m2⟩
theorem get_bytes (S : RSt) (k : Nat) : (S.get k).2.bytes = S.bytes := by
  unfold RSt.get RSt.wrong
  repeat' split
  all_goals rfl
theorem wrong_bytes (S : RSt) (e : Int) (n : Nat) : (S.wrong e n).bytes = S.bytes := by
  unfold RSt.wrong
  repeat' split
  all_goals rfl
theorem num_bytes (S : RSt) (k : Int) : (S.num k).bytes = S.bytes := by
  unfold RSt.num
  repeat' split
  all_goals first | exact get_bytes _ _ | rfl
theorem raw_bytes (S : RSt) (k : Int) : (S.raw k).2.bytes = S.bytes ∧ (S.raw k).1.length ≤ S.bytes.length := by
  unfold RSt.raw RSt.wrong RSt.rest
  repeat' split
  all_goals refine ⟨rfl, ?_⟩
  all_goals simp
  all_goals omega
theorem counted_bytes (S : RSt) : S.counted.2.bytes = S.bytes := by
  unfold RSt.counted
  repeat' split
  all_goals first | rfl | exact wrong_bytes _ _ _
theorem text_bytes (S : RSt) : S.text.2.bytes = S.bytes := by
  unfold RSt.text
  have h := counted_bytes S
  split
  · rename_i hc
    rw [hc] at h
    exact h
  · rename_i hc
    rw [hc] at h
    split
    · exact h
    · exact (wrong_bytes _ _ _).trans h
theorem part_bytes (S : RSt) : S.part.2.bytes = S.bytes ∧ S.part.1.bytes.length ≤ S.bytes.length := by
  unfold RSt.part
  have h := counted_bytes S
  split
  · rename_i hc
    rw [hc] at h
    exact ⟨h, by simp⟩
  · rename_i hc
    rw [hc] at h
    refine ⟨h, ?_⟩
    simp [RSt.part2, RSt.rest]
    omega
theorem fin_bytes (S : RSt) : S.fin.bytes = S.bytes := by
  unfold RSt.fin
  split
  · exact wrong_bytes _ _ _
  · rfl
/-- A step that turns one pair. -/
theorem rdOut_set {P : List RQ} {k : Nat} {x : RQ} {S' : RSt} {E : List En} {H I : List It} {BX : Pc} {w' : World} (hx : P[k]? = some x) (hS : S'.bytes.length ≤ x.S.bytes.length) (hb' : ∀ y ∈ P, y.S.bytes.length ≤ 33554432) (hI : I.length ≤ 1) (hIb : ∀ i ∈ I, i.bs.length ≤ 33554432)
    (h : Post ((RsP 130 ((P.map RQ.w).set k ⟨x.a, S', x.va⟩)).star ((RsP 132 ((P.map RQ.d).set k ⟨x.c, S', x.vc⟩)).star ((BkA b E H I).star ((Hn hb #[vr, vv, .pointer (some ⟨b, 0, none⟩)] vr vv (P.map RQ.p) (P.map RQ.q)).star BX)))) w0 [] w') : RdOut hb b P E H w0 w' := by
  refine ⟨vr, vv, P.set k (x.at S'), I, by simp, by simp, fun y hy => ?_, hI, hIb, ?_⟩
  · rcases List.mem_or_eq_of_mem_set hy with hy | rfl
    · exact hb' y hy
    · have := hb' x (List.mem_of_getElem? hx)
      show S'.bytes.length ≤ _
      omega
  · unfold StR
    rw [set_p S' hx, set_q S' hx, ← set_w, ← set_d]
    exact h.ent ((Pc.Ent.refl _).mono ((Pc.Ent.refl _).mono ((Pc.Ent.refl _).mono (Pc.Ent.left _ _))))
theorem ent_bx (s p q k n : Pc) : Pc.Ent (s.star (p.star (q.star (k.star n)))) (p.star (q.star (k.star (n.star s)))) :=
  (Pc.Ent.swap s p _).trans ((Pc.Ent.refl p).mono ((Pc.Ent.swap s q _).trans ((Pc.Ent.refl q).mono ((Pc.Ent.swap s k n).trans ((Pc.Ent.refl k).mono (Pc.Ent.comm s n))))))
theorem ent_hand (p q k n : Pc) : Pc.Ent (p.star (q.star (k.star n))) (n.star (p.star (q.star k))) :=
  ((Pc.Ent.refl p).mono ((Pc.Ent.refl q).mono (Pc.Ent.comm k n))).trans (Pc.Ent.at3 p q n k)
theorem ent_hand' (p q k n : Pc) : Pc.Ent (n.star (p.star (q.star k))) (p.star (q.star (k.star n))) :=
  (Pc.Ent.swap n p _).trans ((Pc.Ent.refl p).mono ((Pc.Ent.swap n q k).trans ((Pc.Ent.refl q).mono (Pc.Ent.comm n k))))
end

theorem boxQ {w : World} {B : Nat} {who kind k : Int} {n : Nat} {vb : Value} {s : ByteArray} (h : w.heap[B]? = some (.cells #[.int .i64 who, .int .i64 kind, .int .u64 (n : Int), .int .i64 k, vb, .string s] 48 (0, 0))) : w.cell? ⟨B, 0, none⟩ = some (.int .i64 who) ∧ w.cell? ⟨B, 1, none⟩ = some (.int .i64 kind) ∧ w.cell? ⟨B, 3, none⟩ = some (.int .i64 k) := by
  refine ⟨?_, ?_, ?_⟩ <;> (rw [cell_of_row _ _ _ _ _ _ h]; rfl)
theorem at_set {L : List RB} {k : Nat} {x y : RB} (h : L[k]? = some x) : (L.set k y)[k]? = some y := by
  obtain ⟨hk, _⟩ := List.getElem?_eq_some_iff.1 h
  rw [List.getElem?_set, if_pos rfl, if_pos hk]
theorem number_none {w0 w : World} {F : List Nat} {L M : List RB} {K : Pc} {k a c : Nat} {S : RSt} {va vc : Value} (h : Post ((RsP 130 L).star ((RsP 132 M).star K)) w0 F w) (hL : L[k]? = some ⟨a, S, va⟩) (hM : M[k]? = some ⟨c, S, vc⟩) (kind : Int) (hk : S.num kind = S) :
    Calls Tryd.prog 96 #[.pointer (some ⟨a, 0, none⟩), .pointer (some ⟨c, 0, none⟩), .int .i64 kind] w fun e w' => e = .returned (.bool true) ∧ Post ((RsP 130 L).star ((RsP 132 M).star K)) w0 F w' :=
  (number_any h hL hM kind).mono fun _ _ hh => ⟨hh.1, by have := hh.2; rwa [hk, set_self hL, set_self hM] at this⟩
theorem ent_raw (r p q k m : Pc) : Pc.Ent ((r.star p).star (q.star (k.star m))) (r.star (k.star (p.star (q.star m)))) :=
  (Pc.Ent.assoc r p _).trans ((Pc.Ent.refl r).mono (Pc.Ent.at3 p q k m))
theorem ent_raw' (p q k m : Pc) : Pc.Ent (k.star (p.star (q.star m))) (p.star (q.star (k.star m))) :=
  (Pc.Ent.swap k p _).trans ((Pc.Ent.refl p).mono (Pc.Ent.swap k q m))
theorem info61 : (Tryd.prog.info? 61).map (fun i => (i.zero, i.size, i.bytes)) = some (some (.pointer none), 1, 8) := by kernel_rfl
theorem info64 : (Tryd.prog.info? 64).map (fun i => (i.zero, i.size, i.bytes)) = some (some (.pointer none), 1, 8) := by kernel_rfl
theorem ent_at4' (p q k n z : Pc) : Pc.Ent (n.star (p.star (q.star (k.star z)))) (p.star (q.star (k.star (n.star z)))) :=
  (Pc.Ent.swap n p _).trans ((Pc.Ent.refl p).mono ((Pc.Ent.swap n q _).trans ((Pc.Ent.refl q).mono (Pc.Ent.swap n k z))))
theorem rdOut_open {w0 w' : World} {hb b : Nat} {vr vv : Value} {P : List RQ} {k : Nat} {x : RQ} {r : RSt × RSt} {E : List En} {H : List It} {BX : Pc} {p1 p2 : Nat} {v1 v2 : Value} (hx : P[k]? = some x) (hr : r.2.bytes = x.S.bytes) (hr1 : r.1.bytes.length ≤ x.S.bytes.length) (hb' : ∀ y ∈ P, y.S.bytes.length ≤ 33554432)
    (h : Post ((Hn hb #[vr, vv, .pointer (some ⟨b, 0, none⟩)] vr vv (P.map RQ.p ++ [.pointer (some ⟨p1, 0, none⟩)]) (P.map RQ.q ++ [.pointer (some ⟨p2, 0, none⟩)])).star ((RsP 130 ((P.map RQ.w).set k ⟨x.a, r.2, x.va⟩ ++ [⟨p1, r.1, v1⟩])).star ((RsP 132 ((P.map RQ.d).set k ⟨x.c, r.2, x.vc⟩ ++ [⟨p2, r.1, v2⟩])).star ((BkA b E H []).star BX)))) w0 [] w') : RdOut hb b P E H w0 w' := by
  have hxb := hb' x (List.mem_of_getElem? hx)
  refine ⟨vr, vv, P.set k (x.at r.2) ++ [⟨p1, v1, p2, v2, r.1⟩], [], by simp, by simp, fun y hy => ?_, by simp, by simp, ?_⟩
  · rcases List.mem_append.1 hy with hy | hy
    · rcases List.mem_or_eq_of_mem_set hy with hy | rfl
      · exact hb' y hy
      · show r.2.bytes.length ≤ _
        rw [hr]
        exact hxb
    · simp at hy
      subst hy
      show r.1.bytes.length ≤ _
      omega
  · unfold StR
    simp only [List.map_append, List.map_cons, List.map_nil]
    rw [set_p r.2 hx, set_q r.2 hx, ← set_w, ← set_d]
    exact h.ent (((Pc.Ent.refl _).mono ((Pc.Ent.refl _).mono ((Pc.Ent.refl _).mono (Pc.Ent.left _ _)))).trans (ent_hand' _ _ _ _))
theorem is_last {T : TypeId} {w0 w : World} {F : List Nat} {L : List RB} {K : Pc} {x : RB} (h : Post ((RsP T (L ++ [x])).star K) w0 F w) : IsR T w x.a x.R x.v := RsP.is h (k := L.length) (by simp)
set_option maxRecDepth 100000 in
set_option maxHeartbeats 2000000 in
theorem reads5 {w0 w : World} {hb b : Nat} {vr vv : Value} {P : List RQ} {E : List En} {H : List It} (h : Post (StR hb b vr vv P E H []) w0 [] w) (o : OpP) (ho : o.Fits) {x : RQ} (hx : P[pickN o.who P.length]? = some x) (hT : Lib.Utf8Tabs 0 1 w0) (hPl : P.length ≤ 100000000) (hB : ∀ y ∈ P, y.S.bytes.length ≤ 33554432) {A : Option Addr} {nb cb : Nat} (hk : o.kind = 5) :
    Calls Tryd.prog 38 #[.pointer (some ⟨hb, 0, none⟩), opV o (.slice A nb cb)] w fun e w' => e = .returned (.bool true) ∧ RdOut hb b P E H w0 w' := by
  have HB := Lib.hid hB
  have HX := Lib.hid hx
  have HTT := Lib.hid hT
  have hpos : 0 < P.length := by have := (List.getElem?_eq_some_iff.1 hx).1; omega
  have HPK := Lib.hid (fun w' : World => pick_any o.who P.length w' ho.who.1 ho.who.2 hpos (by omega))
  have hxb := hB x (List.mem_of_getElem? hx)
  have hok := ho.k
  obtain ⟨who, kind, n, k, bs, s⟩ := o
  simp only at *
  have hp := (h.alloc (.cells #[.int .i64 who, .int .i64 kind, .int .u64 (n : Int), .int .i64 k, .slice A nb cb, .string s] 48)).ent (ent_bx _ _ _ _ _)
  have HP := Lib.hid hp
  have hh := hp.ent (Pc.Ent.at4 _ _ _ _ _)
  obtain ⟨g1, q1, e1, d1, -⟩ := row_cell (Hn.r hh) (i := pickN who P.length) (x := x.p) (by rw [List.getElem?_map, hx]; rfl)
  obtain ⟨g2, q2, e2, d2, -⟩ := row_cell (Hn.v hh) (i := pickN who P.length) (x := x.q) (by rw [List.getElem?_map, hx]; rfl)
  subst e1
  subst e2
  unfold RQ.p at d1
  unfold RQ.q at d2
  simp only [List.length_map] at hh HP
  obtain ⟨c0, c1, c2, f0, f1⟩ := hand3 (Hn.cells hh)
  have hbx := hp.blkAt ((Pc.Ent.right _ _).trans ((Pc.Ent.right _ _).trans ((Pc.Ent.right _ _).trans (Pc.Ent.right _ _))))
  obtain ⟨b0, b1, b3⟩ := boxQ hbx
  have hj : pickN who P.length < P.length := by unfold pickN; exact Nat.mod_lt _ hpos
  generalize hjj : pickN who P.length = j at *
  have HXw : Hid ((P.map RQ.w)[j]? = some ⟨x.a, x.S, x.va⟩) := Lib.hid (at_w hx)
  have HXd : Hid ((P.map RQ.d)[j]? = some ⟨x.c, x.S, x.vc⟩) := Lib.hid (at_d hx)
  have Hhk := Lib.hid hk
  clear hk
  clear h hB hx hT hp hh hbx ho hjj
  unfold opV
  go_enter Tryd.func38, Tryd.ntmps38
  go_wp2_with fail
  generalize w.alloc (.cells #[.int .i64 who, .int .i64 kind, .int .u64 (n : Int), .int .i64 k, .slice A nb cb, .string s] 48) = w1 at *
  generalize w.heap.size = B at *
  have HPKn : Hid (∀ m, Calls Tryd.prog 18 #[.int .i64 who, .int .i64 (P.length : Int)] (w1.drewN m) fun e w'' => e = .returned (.int .i64 (j : Int)) ∧ ∃ q, w'' = w1.drewN q) := Lib.hid (fun m => (HPK.out _).mono fun e w'' hh => ⟨hh.1, m, hh.2.symm⟩)
  have HPn := Lib.hid (fun m => HP.out.still ((Mods.refl [] w1).drewN m))
  go_quiet (exact HPKn.out _)
  have hk := Hhk.out
  subst hk
  have hrb := raw_bytes x.S k
  have HRB := Lib.hid hrb.1
  have hrl := hrb.2
  clear hrb
  go_wp2_with fail
  refine (RsP.raw (HPn.out nq) HXw.out (fun h => (rraw_any h k hok.1 hok.2).mono fun _ _ hh => hh.rawP)).mono ?_; rintro e w2 ⟨v, rfl, hp2⟩
  have HP2 := Lib.hid (hp2.ent (Pc.Ent.assoc' _ _ _))
  obtain ⟨Av, cv, rfl⟩ := own_ctor (hp2.rowAt (Pc.Ent.left _ _))
  obtain ⟨-, -, b3⟩ := boxQ (hp2.blkAt ((Pc.Ent.right _ _).trans ((Pc.Ent.right _ _).trans ((Pc.Ent.right _ _).trans ((Pc.Ent.right _ _).trans (Pc.Ent.right _ _))))))
  clear hp2
  go_wp2_with fail
  refine (RsP.raw2 HP2.out HXd.out (fun h => qraw_any h k hok.1 hok.2)).mono ?_; rintro e w3 ⟨v2, rfl, hp3⟩
  have HR1 := Lib.hid (Rd.of_own (hp3.rowAt ((Pc.Ent.right _ _).trans ((Pc.Ent.left _ _).trans (Pc.Ent.left _ _)))))
  have HR2 := Lib.hid (Rd.of_own (hp3.rowAt (Pc.Ent.left _ _)))
  obtain ⟨A2, c2', rfl⟩ := own_ctor (hp3.rowAt (Pc.Ent.left _ _))
  have HP3 := Lib.hid (fun m => ((hp3.still ((Mods.refl [] w3).drewN m)).ent (Pc.Ent.right _ _)).ent (ent_raw _ _ _ _ _))
  clear hp3
  go_wp2_with fail
  refine (same_any _ _ HR1.out HR2.out (by unfold maxLen; show (x.S.raw k).1.length ≤ _; omega) (by unfold maxLen; show (x.S.raw k).1.length ≤ _; omega)).mono ?_; rintro e w4 ⟨rfl, m, rfl⟩
  rw [decide_eq_true (rfl : (x.S.raw k).1 = (x.S.raw k).1)]
  have HP4 := Lib.hid (HP3.out m)
  obtain ⟨-, -, c2, -, -⟩ := hand3 (Hn.cells ((HP3.out m).ent ((Pc.Ent.right _ _).trans ((Pc.Ent.right _ _).trans ((Pc.Ent.right _ _).trans (Pc.Ent.right _ _))))))
  go_wp2_with fail
  refine (Post.owns HP4.out (by show (x.S.raw k).1.length ≤ _; omega)).mono ?_; rintro e w5 ⟨rfl, I, hI, hp5⟩
  have HP5 := Lib.hid (hp5.ent (ent_raw' _ _ _ _))
  have HI := Lib.hid hI
  clear hp5 hI
  go_wp2_with fail
  go_ret
  refine ⟨rfl, rdOut_set (x := x) (S' := (x.S.raw k).2) HX.out (Nat.le_of_eq (congrArg List.length HRB.out)) HB.out ?_ ?_ HP5.out⟩
  · have h := congrArg List.length HI.out
    simp at h
    omega
  · intro i hi
    have h : i.bs ∈ I.map It.bs := List.mem_map_of_mem hi
    rw [HI.out] at h
    simp only [List.mem_singleton] at h
    rw [h]
    show (x.S.raw k).1.length ≤ _
    omega
set_option maxRecDepth 100000 in
set_option maxHeartbeats 2000000 in
theorem reads6 {w0 w : World} {hb b : Nat} {vr vv : Value} {P : List RQ} {E : List En} {H : List It} (h : Post (StR hb b vr vv P E H []) w0 [] w) (o : OpP) (ho : o.Fits) {x : RQ} (hx : P[pickN o.who P.length]? = some x) (hT : Lib.Utf8Tabs 0 1 w0) (hPl : P.length ≤ 100000000) (hB : ∀ y ∈ P, y.S.bytes.length ≤ 33554432) {A : Option Addr} {nb cb : Nat} (hk : o.kind = 6) :
    Calls Tryd.prog 38 #[.pointer (some ⟨hb, 0, none⟩), opV o (.slice A nb cb)] w fun e w' => e = .returned (.bool true) ∧ RdOut hb b P E H w0 w' := by
  have HB := Lib.hid hB
  have HX := Lib.hid hx
  have HTT := Lib.hid hT
  have hpos : 0 < P.length := by have := (List.getElem?_eq_some_iff.1 hx).1; omega
  have HPK := Lib.hid (fun w' : World => pick_any o.who P.length w' ho.who.1 ho.who.2 hpos (by omega))
  have hxb := hB x (List.mem_of_getElem? hx)
  have hok := ho.k
  obtain ⟨who, kind, n, k, bs, s⟩ := o
  simp only at *
  have hp := (h.alloc (.cells #[.int .i64 who, .int .i64 kind, .int .u64 (n : Int), .int .i64 k, .slice A nb cb, .string s] 48)).ent (ent_bx _ _ _ _ _)
  have HP := Lib.hid hp
  have hh := hp.ent (Pc.Ent.at4 _ _ _ _ _)
  obtain ⟨g1, q1, e1, d1, -⟩ := row_cell (Hn.r hh) (i := pickN who P.length) (x := x.p) (by rw [List.getElem?_map, hx]; rfl)
  obtain ⟨g2, q2, e2, d2, -⟩ := row_cell (Hn.v hh) (i := pickN who P.length) (x := x.q) (by rw [List.getElem?_map, hx]; rfl)
  subst e1
  subst e2
  unfold RQ.p at d1
  unfold RQ.q at d2
  simp only [List.length_map] at hh HP
  obtain ⟨c0, c1, c2, f0, f1⟩ := hand3 (Hn.cells hh)
  have hbx := hp.blkAt ((Pc.Ent.right _ _).trans ((Pc.Ent.right _ _).trans ((Pc.Ent.right _ _).trans (Pc.Ent.right _ _))))
  obtain ⟨b0, b1, b3⟩ := boxQ hbx
  have hj : pickN who P.length < P.length := by unfold pickN; exact Nat.mod_lt _ hpos
  generalize hjj : pickN who P.length = j at *
  have HXw : Hid ((P.map RQ.w)[j]? = some ⟨x.a, x.S, x.va⟩) := Lib.hid (at_w hx)
  have HXd : Hid ((P.map RQ.d)[j]? = some ⟨x.c, x.S, x.vc⟩) := Lib.hid (at_d hx)
  have Hhk := Lib.hid hk
  clear hk
  clear h hB hx hT hp hh hbx ho hjj
  unfold opV
  go_enter Tryd.func38, Tryd.ntmps38
  go_wp2_with fail
  generalize w.alloc (.cells #[.int .i64 who, .int .i64 kind, .int .u64 (n : Int), .int .i64 k, .slice A nb cb, .string s] 48) = w1 at *
  generalize w.heap.size = B at *
  have HPKn : Hid (∀ m, Calls Tryd.prog 18 #[.int .i64 who, .int .i64 (P.length : Int)] (w1.drewN m) fun e w'' => e = .returned (.int .i64 (j : Int)) ∧ ∃ q, w'' = w1.drewN q) := Lib.hid (fun m => (HPK.out _).mono fun e w'' hh => ⟨hh.1, m, hh.2.symm⟩)
  have HPn := Lib.hid (fun m => HP.out.still ((Mods.refl [] w1).drewN m))
  go_quiet (exact HPKn.out _)
  have hk := Hhk.out
  subst hk
  have HC := Lib.hid (RsP.call (HPn.out nq) HXw.out (fun h => rtext_any h (tabs_mods (HPn.out nq).mods HTT.out)))
  have HD := Lib.hid (fun (w' : World) (L' : List RB) (K : Pc) (h : Post ((RsP 130 L').star ((RsP 132 (P.map RQ.d)).star K)) w0 [] w') => RsP.call2 h HXd.out (fun h => qtext_any h))
  have htb := text_bytes x.S
  change Hid (Calls _ _ _ _ fun e w' => e = .returned (.string ⟨x.S.text.1.toArray⟩) ∧ Post ((RsP 130 ((P.map RQ.w).set j ⟨x.a, x.S.text.2, x.va⟩)).star _) w0 [] w') at HC
  change Hid (∀ (w' : World) (L' : List RB) (K : Pc) (h : Post ((RsP 130 L').star ((RsP 132 (P.map RQ.d)).star K)) w0 [] w'), Calls _ _ _ _ fun e w' => e = .returned (.string ⟨x.S.text.1.toArray⟩) ∧ Post (_ ) w0 [] w') at HD
  go_wp2_with fail
  refine HC.out.mono ?_; rintro e w2 ⟨rfl, hp2⟩
  have HE := Lib.hid (HD.out _ _ _ hp2)
  clear hp2
  go_wp2_with fail
  refine HE.out.mono ?_; rintro e w3 ⟨rfl, hp3⟩
  have HP3 := Lib.hid hp3
  clear hp3
  go_wp2_with fail
  go_ret
  exact ⟨rfl, rdOut_set (x := x) (S' := x.S.text.2) HX.out (Nat.le_of_eq (congrArg List.length htb)) HB.out (by simp) (by simp) HP3.out⟩
set_option maxRecDepth 100000 in
set_option maxHeartbeats 2000000 in
theorem reads7 {w0 w : World} {hb b : Nat} {vr vv : Value} {P : List RQ} {E : List En} {H : List It} (h : Post (StR hb b vr vv P E H []) w0 [] w) (o : OpP) (ho : o.Fits) {x : RQ} (hx : P[pickN o.who P.length]? = some x) (hT : Lib.Utf8Tabs 0 1 w0) (hPl : P.length ≤ 100000000) (hB : ∀ y ∈ P, y.S.bytes.length ≤ 33554432) {A : Option Addr} {nb cb : Nat} (hk : o.kind = 7) :
    Calls Tryd.prog 38 #[.pointer (some ⟨hb, 0, none⟩), opV o (.slice A nb cb)] w fun e w' => e = .returned (.bool true) ∧ RdOut hb b P E H w0 w' := by
  have HB := Lib.hid hB
  have HX := Lib.hid hx
  have HTT := Lib.hid hT
  have hpos : 0 < P.length := by have := (List.getElem?_eq_some_iff.1 hx).1; omega
  have HPK := Lib.hid (fun w' : World => pick_any o.who P.length w' ho.who.1 ho.who.2 hpos (by omega))
  have hxb := hB x (List.mem_of_getElem? hx)
  have hok := ho.k
  obtain ⟨who, kind, n, k, bs, s⟩ := o
  simp only at *
  have hp := (h.alloc (.cells #[.int .i64 who, .int .i64 kind, .int .u64 (n : Int), .int .i64 k, .slice A nb cb, .string s] 48)).ent (ent_bx _ _ _ _ _)
  have HP := Lib.hid hp
  have hh := hp.ent (Pc.Ent.at4 _ _ _ _ _)
  obtain ⟨g1, q1, e1, d1, -⟩ := row_cell (Hn.r hh) (i := pickN who P.length) (x := x.p) (by rw [List.getElem?_map, hx]; rfl)
  obtain ⟨g2, q2, e2, d2, -⟩ := row_cell (Hn.v hh) (i := pickN who P.length) (x := x.q) (by rw [List.getElem?_map, hx]; rfl)
  subst e1
  subst e2
  unfold RQ.p at d1
  unfold RQ.q at d2
  simp only [List.length_map] at hh HP
  obtain ⟨c0, c1, c2, f0, f1⟩ := hand3 (Hn.cells hh)
  have hbx := hp.blkAt ((Pc.Ent.right _ _).trans ((Pc.Ent.right _ _).trans ((Pc.Ent.right _ _).trans (Pc.Ent.right _ _))))
  obtain ⟨b0, b1, b3⟩ := boxQ hbx
  have hj : pickN who P.length < P.length := by unfold pickN; exact Nat.mod_lt _ hpos
  generalize hjj : pickN who P.length = j at *
  have HXw : Hid ((P.map RQ.w)[j]? = some ⟨x.a, x.S, x.va⟩) := Lib.hid (at_w hx)
  have HXd : Hid ((P.map RQ.d)[j]? = some ⟨x.c, x.S, x.vc⟩) := Lib.hid (at_d hx)
  have Hhk := Lib.hid hk
  clear hk
  clear h hB hx hT hp hh hbx ho hjj
  unfold opV
  go_enter Tryd.func38, Tryd.ntmps38
  go_wp2_with fail
  generalize w.alloc (.cells #[.int .i64 who, .int .i64 kind, .int .u64 (n : Int), .int .i64 k, .slice A nb cb, .string s] 48) = w1 at *
  generalize w.heap.size = B at *
  have HPKn : Hid (∀ m, Calls Tryd.prog 18 #[.int .i64 who, .int .i64 (P.length : Int)] (w1.drewN m) fun e w'' => e = .returned (.int .i64 (j : Int)) ∧ ∃ q, w'' = w1.drewN q) := Lib.hid (fun m => (HPK.out _).mono fun e w'' hh => ⟨hh.1, m, hh.2.symm⟩)
  have HPn := Lib.hid (fun m => HP.out.still ((Mods.refl [] w1).drewN m))
  go_quiet (exact HPKn.out _)
  have hk := Hhk.out
  subst hk
  have hpb := part_bytes x.S
  have HPB := Lib.hid hpb
  clear hpb
  go_wp2_with fail
  refine (RsP.cpart (HPn.out nq) HXw.out (fun h => (rpart_any h).mono fun _ _ hh => hh.partP)).mono ?_; rintro e w2 ⟨⟨p1, v1⟩, rfl, hp2⟩
  have HE := Lib.hid (RsP.cpart2 hp2 HXd.out (fun h => qpart_any h))
  clear hp2
  simp only
  go_wp2_with fail
  refine HE.out.mono ?_; rintro e w3 ⟨⟨p2, v2⟩, rfl, hp3⟩
  simp only at hp3 ⊢
  have hh := hp3.ent (Pc.Ent.at4 _ _ _ _ _)
  have HH := Lib.hid hh
  have hr := Hn.r hh
  rw [List.length_map] at hr
  have HR := Lib.hid hr
  clear c0 c1 c2 f0 f1 d1 d2 b0 b1 b3
  obtain ⟨c0, c1, c2, f0, f1⟩ := hand3 (Hn.cells hh)
  clear hp3 hh hr
  obtain ⟨i0, hi, hz0, hz1, hz2⟩ := info_parts info61
  obtain ⟨i1, hj1, hy0, hy1, hy2⟩ := info_parts info64
  go_wp2_with (at_builtin; go_must (refine wpList_app _ rfl _ _ 56 56 rfl 0 61 i0 (.pointer none) 1 8 Tryd.underlying56 hi hz0 hz1 hz2 rfl _ _ _ rfl (HR.out.alloc _) _ 1 [.pointer (some ⟨p1, 0, none⟩)] rfl ?e1 ?e2 ?e3 ?e4 ?_))
  case e1 => exact src_one Tryd.underlying56 _ _ _ rfl
  case e2 => unfold maxLen; omega
  case e3 => omega
  case e4 => exact Nat.zero_le _
  intro vr2 w5 hown hgrow hat
  have hp5 := Hn.pushr HH.out (row_turn (by rw [List.length_map]; exact hown) hgrow (by simpa using hat))
  obtain ⟨Ar, cr, rfl⟩ := own_ctor hown
  clear c0 c1 c2 f0 f1
  obtain ⟨c0, c1, c2, f0, f1⟩ := hand3 (Hn.cells hp5)
  have hp6 := Hn.set hp5 0 (.slice Ar (P.length + 1) cr)
  have HP6 := Lib.hid hp6
  have hv := Hn.v hp6
  rw [List.length_map] at hv
  have HV := Lib.hid hv
  obtain ⟨-, k1, -, -, l1⟩ := hand3 (Hn.cells hp6)
  clear hp5 hp6 hv hown hgrow hat c1 f1
  go_wp2_with (at_builtin; go_must (refine wpList_app _ rfl _ _ 57 57 rfl 0 64 i1 (.pointer none) 1 8 Tryd.underlying57 hj1 hy0 hy1 hy2 rfl _ _ _ rfl (HV.out.alloc _) _ 1 [.pointer (some ⟨p2, 0, none⟩)] rfl ?e1 ?e2 ?e3 ?e4 ?_))
  case e1 => exact src_at Tryd.underlying57 (w5.setCell ⟨hb, 0, none⟩ (.slice Ar (P.length + 1) cr)) [.pointer (some ⟨p2, 0, none⟩)] 64 _ 1 (size_set _ _ _) rfl (by intro u hu; simp at hu; subst hu; rfl)
  case e2 => unfold maxLen; omega
  case e3 => omega
  case e4 => exact Nat.zero_le _
  intro vv2 w7 hown hgrow hat
  have hp7 := Hn.pushv HP6.out (row_turn (by rw [List.length_map]; exact hown) hgrow (by simpa using hat))
  obtain ⟨Av, cv, rfl⟩ := own_ctor hown
  clear k1 l1 c0 c2 f0
  obtain ⟨c0, c1, c2, f0, f1⟩ := hand3 (Hn.cells hp7)
  have hp8 := Hn.set hp7 1 (.slice Av (P.length + 1) cv)
  have HP8 := Lib.hid hp8
  have hi1 : IsR 130 _ p1 x.S.part.1 v1 := is_last (hp8.ent (Pc.Ent.right _ _))
  have hi2 : IsR 132 _ p2 x.S.part.1 v2 := is_last ((hp8.ent (Pc.Ent.right _ _)).ent (Pc.Ent.swap _ _ _))
  have HTL := Lib.hid (tells_any hi1 hi2)
  clear hi1 hi2 hp7 hp8 hown hgrow hat
  go_wp2_with fail
  refine HTL.out.mono ?_; rintro e w9 ⟨rfl, q, rfl⟩
  go_wp2_with fail
  go_ret
  exact ⟨rfl, rdOut_open HX.out HPB.out.1 HPB.out.2 HB.out (HP8.out.still ((Mods.refl [] _).drewN q))⟩
set_option maxRecDepth 100000 in
set_option maxHeartbeats 2000000 in
theorem reads8 {w0 w : World} {hb b : Nat} {vr vv : Value} {P : List RQ} {E : List En} {H : List It} (h : Post (StR hb b vr vv P E H []) w0 [] w) (o : OpP) (ho : o.Fits) {x : RQ} (hx : P[pickN o.who P.length]? = some x) (hT : Lib.Utf8Tabs 0 1 w0) (hPl : P.length ≤ 100000000) (hB : ∀ y ∈ P, y.S.bytes.length ≤ 33554432) {A : Option Addr} {nb cb : Nat} (hk : o.kind = 8) :
    Calls Tryd.prog 38 #[.pointer (some ⟨hb, 0, none⟩), opV o (.slice A nb cb)] w fun e w' => e = .returned (.bool true) ∧ RdOut hb b P E H w0 w' := by
  have HB := Lib.hid hB
  have HX := Lib.hid hx
  have HTT := Lib.hid hT
  have hpos : 0 < P.length := by have := (List.getElem?_eq_some_iff.1 hx).1; omega
  have HPK := Lib.hid (fun w' : World => pick_any o.who P.length w' ho.who.1 ho.who.2 hpos (by omega))
  have hxb := hB x (List.mem_of_getElem? hx)
  have hok := ho.k
  obtain ⟨who, kind, n, k, bs, s⟩ := o
  simp only at *
  have hp := (h.alloc (.cells #[.int .i64 who, .int .i64 kind, .int .u64 (n : Int), .int .i64 k, .slice A nb cb, .string s] 48)).ent (ent_bx _ _ _ _ _)
  have HP := Lib.hid hp
  have hh := hp.ent (Pc.Ent.at4 _ _ _ _ _)
  obtain ⟨g1, q1, e1, d1, -⟩ := row_cell (Hn.r hh) (i := pickN who P.length) (x := x.p) (by rw [List.getElem?_map, hx]; rfl)
  obtain ⟨g2, q2, e2, d2, -⟩ := row_cell (Hn.v hh) (i := pickN who P.length) (x := x.q) (by rw [List.getElem?_map, hx]; rfl)
  subst e1
  subst e2
  unfold RQ.p at d1
  unfold RQ.q at d2
  simp only [List.length_map] at hh HP
  obtain ⟨c0, c1, c2, f0, f1⟩ := hand3 (Hn.cells hh)
  have hbx := hp.blkAt ((Pc.Ent.right _ _).trans ((Pc.Ent.right _ _).trans ((Pc.Ent.right _ _).trans (Pc.Ent.right _ _))))
  obtain ⟨b0, b1, b3⟩ := boxQ hbx
  have hj : pickN who P.length < P.length := by unfold pickN; exact Nat.mod_lt _ hpos
  generalize hjj : pickN who P.length = j at *
  have HXw : Hid ((P.map RQ.w)[j]? = some ⟨x.a, x.S, x.va⟩) := Lib.hid (at_w hx)
  have HXd : Hid ((P.map RQ.d)[j]? = some ⟨x.c, x.S, x.vc⟩) := Lib.hid (at_d hx)
  have Hhk := Lib.hid hk
  clear hk
  clear h hB hx hT hp hh hbx ho hjj
  unfold opV
  go_enter Tryd.func38, Tryd.ntmps38
  go_wp2_with fail
  generalize w.alloc (.cells #[.int .i64 who, .int .i64 kind, .int .u64 (n : Int), .int .i64 k, .slice A nb cb, .string s] 48) = w1 at *
  generalize w.heap.size = B at *
  have HPKn : Hid (∀ m, Calls Tryd.prog 18 #[.int .i64 who, .int .i64 (P.length : Int)] (w1.drewN m) fun e w'' => e = .returned (.int .i64 (j : Int)) ∧ ∃ q, w'' = w1.drewN q) := Lib.hid (fun m => (HPK.out _).mono fun e w'' hh => ⟨hh.1, m, hh.2.symm⟩)
  have HPn := Lib.hid (fun m => HP.out.still ((Mods.refl [] w1).drewN m))
  go_quiet (exact HPKn.out _)
  have hk := Hhk.out
  subst hk
  go_wp2_with fail
  refine (RsP.call (HPn.out nq) HXw.out (fun h => end_any h)).mono ?_; rintro e w2 ⟨rfl, hp2⟩
  have HE := Lib.hid (RsP.call2 hp2 HXd.out (fun h => qend_any h))
  clear hp2
  go_wp2_with fail
  refine HE.out.mono ?_; rintro e w3 ⟨rfl, hp3⟩
  have HP3 := Lib.hid hp3
  obtain ⟨-, b1, -⟩ := boxQ (hp3.blkAt ((Pc.Ent.right _ _).trans ((Pc.Ent.right _ _).trans ((Pc.Ent.right _ _).trans (Pc.Ent.right _ _)))))
  clear hp3
  go_wp2_with fail
  refine (number_none HP3.out (at_set HXw.out) (at_set HXd.out) _ rfl).mono ?_; rintro e w4 ⟨rfl, hp4⟩
  have HP4 := Lib.hid hp4
  clear hp4
  go_wp2_with fail
  go_ret
  exact ⟨rfl, rdOut_set (x := x) (S' := x.S.fin) HX.out (Nat.le_of_eq (congrArg List.length (fin_bytes x.S))) HB.out (by simp) (by simp) HP4.out⟩
set_option maxRecDepth 100000 in
set_option maxHeartbeats 2000000 in
theorem reads9 {w0 w : World} {hb b : Nat} {vr vv : Value} {P : List RQ} {E : List En} {H : List It} (h : Post (StR hb b vr vv P E H []) w0 [] w) (o : OpP) (ho : o.Fits) {x : RQ} (hx : P[pickN o.who P.length]? = some x) (hT : Lib.Utf8Tabs 0 1 w0) (hPl : P.length ≤ 100000000) (hB : ∀ y ∈ P, y.S.bytes.length ≤ 33554432) {A : Option Addr} {nb cb : Nat} (hk : o.kind = 9) :
    Calls Tryd.prog 38 #[.pointer (some ⟨hb, 0, none⟩), opV o (.slice A nb cb)] w fun e w' => e = .returned (.bool true) ∧ RdOut hb b P E H w0 w' := by
  have HB := Lib.hid hB
  have HX := Lib.hid hx
  have HTT := Lib.hid hT
  have hpos : 0 < P.length := by have := (List.getElem?_eq_some_iff.1 hx).1; omega
  have HPK := Lib.hid (fun w' : World => pick_any o.who P.length w' ho.who.1 ho.who.2 hpos (by omega))
  have hxb := hB x (List.mem_of_getElem? hx)
  have hok := ho.k
  obtain ⟨who, kind, n, k, bs, s⟩ := o
  simp only at *
  have hp := (h.alloc (.cells #[.int .i64 who, .int .i64 kind, .int .u64 (n : Int), .int .i64 k, .slice A nb cb, .string s] 48)).ent (ent_bx _ _ _ _ _)
  have HP := Lib.hid hp
  have hh := hp.ent (Pc.Ent.at4 _ _ _ _ _)
  obtain ⟨g1, q1, e1, d1, -⟩ := row_cell (Hn.r hh) (i := pickN who P.length) (x := x.p) (by rw [List.getElem?_map, hx]; rfl)
  obtain ⟨g2, q2, e2, d2, -⟩ := row_cell (Hn.v hh) (i := pickN who P.length) (x := x.q) (by rw [List.getElem?_map, hx]; rfl)
  subst e1
  subst e2
  unfold RQ.p at d1
  unfold RQ.q at d2
  simp only [List.length_map] at hh HP
  obtain ⟨c0, c1, c2, f0, f1⟩ := hand3 (Hn.cells hh)
  have hbx := hp.blkAt ((Pc.Ent.right _ _).trans ((Pc.Ent.right _ _).trans ((Pc.Ent.right _ _).trans (Pc.Ent.right _ _))))
  obtain ⟨b0, b1, b3⟩ := boxQ hbx
  have hj : pickN who P.length < P.length := by unfold pickN; exact Nat.mod_lt _ hpos
  generalize hjj : pickN who P.length = j at *
  have HXw : Hid ((P.map RQ.w)[j]? = some ⟨x.a, x.S, x.va⟩) := Lib.hid (at_w hx)
  have HXd : Hid ((P.map RQ.d)[j]? = some ⟨x.c, x.S, x.vc⟩) := Lib.hid (at_d hx)
  have Hhk := Lib.hid hk
  clear hk
  clear h hB hx hT hp hh hbx ho hjj
  unfold opV
  go_enter Tryd.func38, Tryd.ntmps38
  go_wp2_with fail
  generalize w.alloc (.cells #[.int .i64 who, .int .i64 kind, .int .u64 (n : Int), .int .i64 k, .slice A nb cb, .string s] 48) = w1 at *
  generalize w.heap.size = B at *
  have HPKn : Hid (∀ m, Calls Tryd.prog 18 #[.int .i64 who, .int .i64 (P.length : Int)] (w1.drewN m) fun e w'' => e = .returned (.int .i64 (j : Int)) ∧ ∃ q, w'' = w1.drewN q) := Lib.hid (fun m => (HPK.out _).mono fun e w'' hh => ⟨hh.1, m, hh.2.symm⟩)
  have HPn := Lib.hid (fun m => HP.out.still ((Mods.refl [] w1).drewN m))
  go_quiet (exact HPKn.out _)
  have hk := Hhk.out
  subst hk
  go_wp2_with fail
  refine (RsP.call (HPn.out nq) HXw.out (fun h => fail_any h k hok.1 hok.2)).mono ?_; rintro e w2 ⟨rfl, hp2⟩
  have HE := Lib.hid (RsP.call2 hp2 HXd.out (fun h => qfail_any h k hok.1 hok.2))
  obtain ⟨-, -, b3⟩ := boxQ (hp2.blkAt ((Pc.Ent.right _ _).trans ((Pc.Ent.right _ _).trans ((Pc.Ent.right _ _).trans (Pc.Ent.right _ _)))))
  clear hp2
  go_wp2_with fail
  refine HE.out.mono ?_; rintro e w3 ⟨rfl, hp3⟩
  have HP3 := Lib.hid hp3
  obtain ⟨-, b1, -⟩ := boxQ (hp3.blkAt ((Pc.Ent.right _ _).trans ((Pc.Ent.right _ _).trans ((Pc.Ent.right _ _).trans (Pc.Ent.right _ _)))))
  clear hp3
  go_wp2_with fail
  refine (number_none HP3.out (at_set HXw.out) (at_set HXd.out) _ rfl).mono ?_; rintro e w4 ⟨rfl, hp4⟩
  have HP4 := Lib.hid hp4
  clear hp4
  go_wp2_with fail
  go_ret
  exact ⟨rfl, rdOut_set (x := x) (S' := x.S.wrong k 0) HX.out (Nat.le_of_eq (congrArg List.length (wrong_bytes x.S k 0))) HB.out (by simp) (by simp) HP4.out⟩
set_option maxRecDepth 100000 in
set_option maxHeartbeats 2000000 in
theorem reads10 {w0 w : World} {hb b : Nat} {vr vv : Value} {P : List RQ} {E : List En} {H : List It} (h : Post (StR hb b vr vv P E H []) w0 [] w) (o : OpP) (ho : o.Fits) {x : RQ} (hx : P[pickN o.who P.length]? = some x) (hT : Lib.Utf8Tabs 0 1 w0) (hPl : P.length ≤ 100000000) (hB : ∀ y ∈ P, y.S.bytes.length ≤ 33554432) {A : Option Addr} {nb cb : Nat} (hk : o.kind = 10) :
    Calls Tryd.prog 38 #[.pointer (some ⟨hb, 0, none⟩), opV o (.slice A nb cb)] w fun e w' => e = .returned (.bool true) ∧ RdOut hb b P E H w0 w' := by
  have HB := Lib.hid hB
  have HX := Lib.hid hx
  have HTT := Lib.hid hT
  have hpos : 0 < P.length := by have := (List.getElem?_eq_some_iff.1 hx).1; omega
  have HPK := Lib.hid (fun w' : World => pick_any o.who P.length w' ho.who.1 ho.who.2 hpos (by omega))
  have hxb := hB x (List.mem_of_getElem? hx)
  have hok := ho.k
  obtain ⟨who, kind, n, k, bs, s⟩ := o
  simp only at *
  have hp := (h.alloc (.cells #[.int .i64 who, .int .i64 kind, .int .u64 (n : Int), .int .i64 k, .slice A nb cb, .string s] 48)).ent (ent_bx _ _ _ _ _)
  have HP := Lib.hid hp
  have hh := hp.ent (Pc.Ent.at4 _ _ _ _ _)
  obtain ⟨g1, q1, e1, d1, -⟩ := row_cell (Hn.r hh) (i := pickN who P.length) (x := x.p) (by rw [List.getElem?_map, hx]; rfl)
  obtain ⟨g2, q2, e2, d2, -⟩ := row_cell (Hn.v hh) (i := pickN who P.length) (x := x.q) (by rw [List.getElem?_map, hx]; rfl)
  subst e1
  subst e2
  unfold RQ.p at d1
  unfold RQ.q at d2
  simp only [List.length_map] at hh HP
  obtain ⟨c0, c1, c2, f0, f1⟩ := hand3 (Hn.cells hh)
  have hbx := hp.blkAt ((Pc.Ent.right _ _).trans ((Pc.Ent.right _ _).trans ((Pc.Ent.right _ _).trans (Pc.Ent.right _ _))))
  obtain ⟨b0, b1, b3⟩ := boxQ hbx
  have hj : pickN who P.length < P.length := by unfold pickN; exact Nat.mod_lt _ hpos
  generalize hjj : pickN who P.length = j at *
  have HXw : Hid ((P.map RQ.w)[j]? = some ⟨x.a, x.S, x.va⟩) := Lib.hid (at_w hx)
  have HXd : Hid ((P.map RQ.d)[j]? = some ⟨x.c, x.S, x.vc⟩) := Lib.hid (at_d hx)
  have Hhk := Lib.hid hk
  clear hk
  clear h hB hx hT hp hh hbx ho hjj
  unfold opV
  go_enter Tryd.func38, Tryd.ntmps38
  go_wp2_with fail
  generalize w.alloc (.cells #[.int .i64 who, .int .i64 kind, .int .u64 (n : Int), .int .i64 k, .slice A nb cb, .string s] 48) = w1 at *
  generalize w.heap.size = B at *
  have HPKn : Hid (∀ m, Calls Tryd.prog 18 #[.int .i64 who, .int .i64 (P.length : Int)] (w1.drewN m) fun e w'' => e = .returned (.int .i64 (j : Int)) ∧ ∃ q, w'' = w1.drewN q) := Lib.hid (fun m => (HPK.out _).mono fun e w'' hh => ⟨hh.1, m, hh.2.symm⟩)
  have HPn := Lib.hid (fun m => HP.out.still ((Mods.refl [] w1).drewN m))
  go_quiet (exact HPKn.out _)
  have hk := Hhk.out
  subst hk
  have HW := Lib.hid (fun m => RsP.is (HPn.out m) HXw.out)
  have HV := Lib.hid (fun m => RsP.is ((HPn.out m).ent (Pc.Ent.swap _ _ _)) HXd.out)
  go_wp2_with fail
  refine (left_any (HW.out _)).mono ?_; rintro e w2 ⟨rfl, q2, rfl⟩
  rw [World.drewN_drewN]
  go_wp2_with fail
  refine (qleft_any (HV.out _)).mono ?_; rintro e w3 ⟨rfl, q3, rfl⟩
  rw [World.drewN_drewN]
  go_wp2_with fail
  refine (at_any (HW.out _)).mono ?_; rintro e w4 ⟨rfl, q4, rfl⟩
  rw [World.drewN_drewN]
  go_wp2_with fail
  refine (qat_any (HV.out _)).mono ?_; rintro e w5 ⟨rfl, q5, rfl⟩
  rw [World.drewN_drewN]
  go_wp2_with fail
  go_ret
  exact ⟨rfl, rdOut_set (x := x) (S' := x.S) (I := []) HX.out (Nat.le_refl _) HB.out (by simp) (by simp) (by rw [set_self HXw.out, set_self HXd.out]; exact HPn.out _)⟩
set_option maxRecDepth 100000 in
set_option maxHeartbeats 2000000 in
theorem reads11 {w0 w : World} {hb b : Nat} {vr vv : Value} {P : List RQ} {E : List En} {H : List It} (h : Post (StR hb b vr vv P E H []) w0 [] w) (o : OpP) (ho : o.Fits) {x : RQ} (hx : P[pickN o.who P.length]? = some x) (hT : Lib.Utf8Tabs 0 1 w0) (hPl : P.length ≤ 100000000) (hB : ∀ y ∈ P, y.S.bytes.length ≤ 33554432) {A : Option Addr} {nb cb : Nat} (hk : o.kind = 11) :
    Calls Tryd.prog 38 #[.pointer (some ⟨hb, 0, none⟩), opV o (.slice A nb cb)] w fun e w' => e = .returned (.bool true) ∧ RdOut hb b P E H w0 w' := by
  have HB := Lib.hid hB
  have HX := Lib.hid hx
  have HTT := Lib.hid hT
  have hpos : 0 < P.length := by have := (List.getElem?_eq_some_iff.1 hx).1; omega
  have HPK := Lib.hid (fun w' : World => pick_any o.who P.length w' ho.who.1 ho.who.2 hpos (by omega))
  have hxb := hB x (List.mem_of_getElem? hx)
  have hok := ho.k
  obtain ⟨who, kind, n, k, bs, s⟩ := o
  simp only at *
  have hp := (h.alloc (.cells #[.int .i64 who, .int .i64 kind, .int .u64 (n : Int), .int .i64 k, .slice A nb cb, .string s] 48)).ent (ent_bx _ _ _ _ _)
  have HP := Lib.hid hp
  have hh := hp.ent (Pc.Ent.at4 _ _ _ _ _)
  obtain ⟨g1, q1, e1, d1, -⟩ := row_cell (Hn.r hh) (i := pickN who P.length) (x := x.p) (by rw [List.getElem?_map, hx]; rfl)
  obtain ⟨g2, q2, e2, d2, -⟩ := row_cell (Hn.v hh) (i := pickN who P.length) (x := x.q) (by rw [List.getElem?_map, hx]; rfl)
  subst e1
  subst e2
  unfold RQ.p at d1
  unfold RQ.q at d2
  simp only [List.length_map] at hh HP
  obtain ⟨c0, c1, c2, f0, f1⟩ := hand3 (Hn.cells hh)
  have hbx := hp.blkAt ((Pc.Ent.right _ _).trans ((Pc.Ent.right _ _).trans ((Pc.Ent.right _ _).trans (Pc.Ent.right _ _))))
  obtain ⟨b0, b1, b3⟩ := boxQ hbx
  have hj : pickN who P.length < P.length := by unfold pickN; exact Nat.mod_lt _ hpos
  generalize hjj : pickN who P.length = j at *
  have HXw : Hid ((P.map RQ.w)[j]? = some ⟨x.a, x.S, x.va⟩) := Lib.hid (at_w hx)
  have HXd : Hid ((P.map RQ.d)[j]? = some ⟨x.c, x.S, x.vc⟩) := Lib.hid (at_d hx)
  have Hhk := Lib.hid hk
  clear hk
  clear h hB hx hT hp hh hbx ho hjj
  unfold opV
  go_enter Tryd.func38, Tryd.ntmps38
  go_wp2_with fail
  generalize w.alloc (.cells #[.int .i64 who, .int .i64 kind, .int .u64 (n : Int), .int .i64 k, .slice A nb cb, .string s] 48) = w1 at *
  generalize w.heap.size = B at *
  have HPKn : Hid (∀ m, Calls Tryd.prog 18 #[.int .i64 who, .int .i64 (P.length : Int)] (w1.drewN m) fun e w'' => e = .returned (.int .i64 (j : Int)) ∧ ∃ q, w'' = w1.drewN q) := Lib.hid (fun m => (HPK.out _).mono fun e w'' hh => ⟨hh.1, m, hh.2.symm⟩)
  have HPn := Lib.hid (fun m => HP.out.still ((Mods.refl [] w1).drewN m))
  go_quiet (exact HPKn.out _)
  have hk := Hhk.out
  subst hk
  have hi1 : IsR 130 (w1.drewN nq) x.a x.S x.va := RsP.is (HPn.out nq) HXw.out
  have hi2 : IsR 132 (w1.drewN nq) x.c x.S x.vc := RsP.is ((HPn.out nq).ent (Pc.Ent.swap _ _ _)) HXd.out
  have HTL := Lib.hid (tells_any hi1 hi2)
  clear hi1 hi2
  go_wp2_with fail
  refine HTL.out.mono ?_; rintro e w2 ⟨rfl, q, rfl⟩
  rw [World.drewN_drewN]
  go_wp2_with fail
  go_ret
  exact ⟨rfl, rdOut_set (x := x) (S' := x.S) (I := []) HX.out (Nat.le_refl _) HB.out (by simp) (by simp) (by rw [set_self HXw.out, set_self HXd.out]; exact HPn.out _)⟩
set_option maxRecDepth 100000 in
set_option maxHeartbeats 2000000 in
theorem readsN {w0 w : World} {hb b : Nat} {vr vv : Value} {P : List RQ} {E : List En} {H : List It} (h : Post (StR hb b vr vv P E H []) w0 [] w) (o : OpP) (ho : o.Fits) {x : RQ} (hx : P[pickN o.who P.length]? = some x) (hT : Lib.Utf8Tabs 0 1 w0) (hPl : P.length ≤ 100000000) (hB : ∀ y ∈ P, y.S.bytes.length ≤ 33554432) {A : Option Addr} {nb cb : Nat} (k5 : o.kind ≠ 5) (k6 : o.kind ≠ 6) (k7 : o.kind ≠ 7) (k8 : o.kind ≠ 8) (k9 : o.kind ≠ 9) (k10 : o.kind ≠ 10) (k11 : o.kind ≠ 11) :
    Calls Tryd.prog 38 #[.pointer (some ⟨hb, 0, none⟩), opV o (.slice A nb cb)] w fun e w' => e = .returned (.bool true) ∧ RdOut hb b P E H w0 w' := by
  have HB := Lib.hid hB
  have HX := Lib.hid hx
  have HTT := Lib.hid hT
  have hpos : 0 < P.length := by have := (List.getElem?_eq_some_iff.1 hx).1; omega
  have HPK := Lib.hid (fun w' : World => pick_any o.who P.length w' ho.who.1 ho.who.2 hpos (by omega))
  have hxb := hB x (List.mem_of_getElem? hx)
  have hok := ho.k
  obtain ⟨who, kind, n, k, bs, s⟩ := o
  simp only at *
  have hp := (h.alloc (.cells #[.int .i64 who, .int .i64 kind, .int .u64 (n : Int), .int .i64 k, .slice A nb cb, .string s] 48)).ent (ent_bx _ _ _ _ _)
  have HP := Lib.hid hp
  have hh := hp.ent (Pc.Ent.at4 _ _ _ _ _)
  obtain ⟨g1, q1, e1, d1, -⟩ := row_cell (Hn.r hh) (i := pickN who P.length) (x := x.p) (by rw [List.getElem?_map, hx]; rfl)
  obtain ⟨g2, q2, e2, d2, -⟩ := row_cell (Hn.v hh) (i := pickN who P.length) (x := x.q) (by rw [List.getElem?_map, hx]; rfl)
  subst e1
  subst e2
  unfold RQ.p at d1
  unfold RQ.q at d2
  simp only [List.length_map] at hh HP
  obtain ⟨c0, c1, c2, f0, f1⟩ := hand3 (Hn.cells hh)
  have hbx := hp.blkAt ((Pc.Ent.right _ _).trans ((Pc.Ent.right _ _).trans ((Pc.Ent.right _ _).trans (Pc.Ent.right _ _))))
  obtain ⟨b0, b1, b3⟩ := boxQ hbx
  have hj : pickN who P.length < P.length := by unfold pickN; exact Nat.mod_lt _ hpos
  generalize hjj : pickN who P.length = j at *
  have HXw : Hid ((P.map RQ.w)[j]? = some ⟨x.a, x.S, x.va⟩) := Lib.hid (at_w hx)
  have HXd : Hid ((P.map RQ.d)[j]? = some ⟨x.c, x.S, x.vc⟩) := Lib.hid (at_d hx)
  have Hk5 := Lib.hid k5
  clear k5
  have Hk6 := Lib.hid k6
  clear k6
  have Hk7 := Lib.hid k7
  clear k7
  have Hk8 := Lib.hid k8
  clear k8
  have Hk9 := Lib.hid k9
  clear k9
  have Hk10 := Lib.hid k10
  clear k10
  have Hk11 := Lib.hid k11
  clear k11
  clear h hB hx hT hp hh hbx ho hjj
  unfold opV
  go_enter Tryd.func38, Tryd.ntmps38
  go_wp2_with fail
  generalize w.alloc (.cells #[.int .i64 who, .int .i64 kind, .int .u64 (n : Int), .int .i64 k, .slice A nb cb, .string s] 48) = w1 at *
  generalize w.heap.size = B at *
  have HPKn : Hid (∀ m, Calls Tryd.prog 18 #[.int .i64 who, .int .i64 (P.length : Int)] (w1.drewN m) fun e w'' => e = .returned (.int .i64 (j : Int)) ∧ ∃ q, w'' = w1.drewN q) := Lib.hid (fun m => (HPK.out _).mono fun e w'' hh => ⟨hh.1, m, hh.2.symm⟩)
  have HPn := Lib.hid (fun m => HP.out.still ((Mods.refl [] w1).drewN m))
  go_quiet (exact HPKn.out _)
  have g5 : (kind == 5) = false := by rw [beq_eq_false_iff_ne]; exact Hk5.out
  have g6 : (kind == 6) = false := by rw [beq_eq_false_iff_ne]; exact Hk6.out
  have g7 : (kind == 7) = false := by rw [beq_eq_false_iff_ne]; exact Hk7.out
  have g8 : (kind == 8) = false := by rw [beq_eq_false_iff_ne]; exact Hk8.out
  have g9 : (kind == 9) = false := by rw [beq_eq_false_iff_ne]; exact Hk9.out
  have g10 : (kind == 10) = false := by rw [beq_eq_false_iff_ne]; exact Hk10.out
  have g11 : (kind == 11) = false := by rw [beq_eq_false_iff_ne]; exact Hk11.out
  have HC := Lib.hid (number_any (HPn.out nq) HXw.out HXd.out kind)
  go_wp2_with fail
  refine HC.out.mono ?_; rintro e w2 ⟨rfl, hp2⟩
  have HP2 := Lib.hid hp2
  clear hp2
  go_wp2_with fail
  go_ret
  exact ⟨rfl, rdOut_set (x := x) (S' := x.S.num kind) HX.out (Nat.le_of_eq (congrArg List.length (num_bytes _ _))) HB.out (by simp) (by simp) HP2.out⟩
theorem reads_any {w0 w : World} {hb b : Nat} {vr vv : Value} {P : List RQ} {E : List En} {H : List It} (h : Post (StR hb b vr vv P E H []) w0 [] w) (o : OpP) (ho : o.Fits) {x : RQ} (hx : P[pickN o.who P.length]? = some x) (hT : Lib.Utf8Tabs 0 1 w0) (hPl : P.length ≤ 100000000) (hB : ∀ y ∈ P, y.S.bytes.length ≤ 33554432) {A : Option Addr} {nb cb : Nat} :
    Calls Tryd.prog 38 #[.pointer (some ⟨hb, 0, none⟩), opV o (.slice A nb cb)] w fun e w' => e = .returned (.bool true) ∧ RdOut hb b P E H w0 w' := by
  by_cases k5 : o.kind = 5
  · exact reads5 h o ho hx hT hPl hB k5
  by_cases k6 : o.kind = 6
  · exact reads6 h o ho hx hT hPl hB k6
  by_cases k7 : o.kind = 7
  · exact reads7 h o ho hx hT hPl hB k7
  by_cases k8 : o.kind = 8
  · exact reads8 h o ho hx hT hPl hB k8
  by_cases k9 : o.kind = 9
  · exact reads9 h o ho hx hT hPl hB k9
  by_cases k10 : o.kind = 10
  · exact reads10 h o ho hx hT hPl hB k10
  by_cases k11 : o.kind = 11
  · exact reads11 h o ho hx hT hPl hB k11
  exact readsN h o ho hx hT hPl hB k5 k6 k7 k8 k9 k10 k11

/-- Texts in memory: a slice of slices of bytes. -/
structure Txts (w : World) (v : Value) (L : List (List UInt8 × Value)) : Prop where
  row : Rd w v (L.map Prod.snd)
  each : ∀ p ∈ L, Rd w p.2 (p.1.map byteV) ∧ p.1.length ≤ 140737488355328
def RelMany (L : List (List UInt8 × Value)) (w : World) (n i : Value) (wr : World) : Prop :=
  ∃ k m : Nat, k ≤ L.length ∧ i = .int .i64 k ∧ n = .int .i64 (m : Int) ∧ m ≤ 281474976710656 ∧ k * 16 ≤ m ∧ (∀ p ∈ L.take k, p.1.length ≤ m) ∧ w = wr
set_option maxRecDepth 100000 in
set_option maxHeartbeats 1000000 in
theorem many_any {w : World} (L : List (List UInt8 × Value)) {v : Value} (h : Txts w v L) :
    Calls Tryd.prog 33 #[v] w fun e w' => ∃ m : Nat, (m ≤ 33554432 → L.length * 16 ≤ 33554432 ∧ ∀ p ∈ L, p.1.length ≤ 33554432) ∧ m ≤ 281474976710656 ∧ e = .returned (.int .i64 (m : Int)) ∧ w = w' := by
  obtain ⟨h0, h1⟩ := h
  have H1 := Lib.hid h1
  obtain ⟨A, c, rfl, hlc, hcm, hcs⟩ := h0
  rw [List.length_map] at hlc ⊢
  have HC := Lib.hid hcs
  clear h1 hcs hlc
  go_enter Tryd.func33, Tryd.ntmps33
  go_wp2_with fail
  go_loopw [3, 4] (fun n i wr => RelMany L w n i wr) (fun _ i _ => L.length - (intOf i).toNat)
  case atStart => exact ⟨0, 0, by omega, rfl, rfl, by omega, by omega, by simp, rfl⟩
  case round =>
    obtain ⟨k, m, hk, rfl, rfl, hm, hkm, hall, rfl⟩ := hrel
    have HALL := Lib.hid hall
    clear hall
    rcases Nat.lt_or_ge k L.length with hlt | hge
    · by_cases hroom : m ≤ 33554432
      · obtain ⟨⟨bs, vo⟩, hp⟩ : ∃ p, L[k]? = some p := ⟨_, List.getElem?_eq_getElem hlt⟩
        obtain ⟨g, off, rfl, d0⟩ := HC.out k vo (by rw [List.getElem?_map, hp]; rfl)
        have hin := H1.out (bs, vo) (List.mem_of_getElem? hp)
        obtain ⟨Ab, cb, hvo, -⟩ := rd_slice hin.1
        simp only at hvo
        subst hvo
        have hbl : bs.length ≤ 140737488355328 := hin.2
        have HR : Hid (RelMany L w (.int .i64 ((m : Int) + 16 + (bs.length : Int))) (.int .i64 ((k : Int) + 1)) w) := Lib.hid ⟨k + 1, m + 16 + bs.length, by omega, rfl, by congr 1, by omega, by omega, fun p hpp => by
          rw [List.take_add_one, hp] at hpp
          rcases List.mem_append.1 hpp with hx | hx
          · have := HALL.out p hx
            omega
          · simp at hx
            subst hx
            show bs.length ≤ _
            omega, rfl⟩
        clear hp hin
        go_wp2_with fail
        exact ⟨HR.out, by simp only [intOf]; omega⟩
      · go_wp2_with fail
        go_ret
        exact ⟨m, fun h => absurd h hroom, hm, rfl, rfl⟩
    · obtain rfl : k = L.length := by omega
      go_wp2_with fail
      go_ret
      exact ⟨m, fun h => ⟨by omega, fun p hp => by have := HALL.out p (by rw [List.take_length]; exact hp); omega⟩, hm, rfl, rfl⟩
/-- A call of a Go function of one argument, as one step of a region that draws. -/
theorem step_call {P : Program} {ops : Array Oper} {o : Oper} {a : Act} {w : World} {K : Act → World → Prop} {Q : Exit → Act → World → Prop} {E : Prop} (hgd : o.guard = none) (s : Operand) (f : FuncId) (ts : Array TypeId)
    (ho : o.op = .call { callee := .value (.func f), args := #[s], argTypes := ts }) {fn : Func} {c : Code} (hf : P.funcs[f]? = some fn) (hname : (fn.name == "runtime.NumGoroutine") = false) (hb : fn.body = some c) (vx : Value) (hx : a.eval s = vx) {R : Ending → World → Prop} (hc : Calls P f #[vx] w R) {R' : Value → World → Prop} (hr : ∀ e w', R e w' → ∃ v, e = .returned v ∧ R' v w')
    (h : ∀ v w', R' v w' → K (a.put o.dst v) w') : if Region.wanted o (yielded ops a.tmps) = true then Oper.wp P o a w K Q else E := by
  have hw : Region.wanted o (yielded ops a.tmps) = true := by simp [Region.wanted, hgd]
  rw [if_pos hw]
  have h1 : fn.name ≠ "runtime.NumGoroutine" := by simpa using hname
  have e : (execOp a.eval o).run P w = .ok (.enter f #[vx]) w := by
    have hv : a.eval (.func f) = .func (.func f) #[] #[] := rfl
    unfold execOp
    simp [ho, resolve, invoke, hx, hv, Deferred.ofValue, callFunc, hf, h1, hb]
  unfold Oper.wp
  rw [e, Oper.upon_enter]
  refine hc.mono ?_
  intro e w' hh
  obtain ⟨v, rfl, h2⟩ := hr e w' hh
  exact h v w' h2
theorem RsP.newS {T : TypeId} {w0 w w' : World} {F : List Nat} {L : List RB} {K : Pc} {S' : RSt} {a : Nat} {vb : Value} (h : Post ((RsP T L).star K) w0 F w) (hm : Mods [] w w') (hi : IsR T w' a S' vb) (hk : ∀ q, vb.ownBlock = some q → w.heap.size ≤ q ∧ q < w'.heap.size) (ha : w.heap.size ≤ a) : Post ((RsP T (L ++ [⟨a, S', vb⟩])).star K) w0 F w' :=
  h.step fun _ hF => RsP.new (Post.start hF) hm hi hk ha
theorem StR.turn {w0 w : World} {hb b : Nat} {vr vv : Value} {P : List RQ} {E : List En} {H I : List It} (h : Post (StR hb b vr vv P E H I) w0 [] w) (hE : E.length + 5 * H.length ≤ 100000000) (hH : ∀ x ∈ H, x.bs.length ≤ 100000000) :
    Calls Tryd.prog 26 #[.pointer (some ⟨b, 0, none⟩)] w fun e w' => e = .returned (.bool true) ∧ ∃ E' : List En, E'.length ≤ E.length + 5 * H.length ∧ Post (StR hb b vr vv P E' I []) w0 [] w' := by
  refine (Post.call (h.ent (Pc.Ent.at3 _ _ _ _)) fun F1 hF => turn_any hF hE hH).mono ?_
  rintro e w' ⟨he, F1, ⟨F2, F3, ⟨E', hl, h2⟩, h3, h4, rfl⟩, h5, h6⟩
  have hp : Post ((BkA b E' I []).star ((RsP 130 (P.map RQ.w)).star ((RsP 132 (P.map RQ.d)).star (Hn hb #[vr, vv, .pointer (some ⟨b, 0, none⟩)] vr vv (P.map RQ.p) (P.map RQ.q))))) w0 [] w' := ⟨_, ⟨F2, F3, h2, h3, h4, rfl⟩, h5, h6⟩
  exact ⟨he, E', hl, hp.ent (ent_raw' _ _ _ _)⟩
set_option maxRecDepth 100000 in
set_option maxHeartbeats 1000000 in
theorem StR.ends {w0 w : World} {hb b : Nat} {vr vv : Value} {P : List RQ} {E : List En} {H I : List It} (h : Post (StR hb b vr vv P E H I) w0 [] w) (hE : E.length + 5 * H.length + 5 * I.length ≤ 100000000) (hH : ∀ x ∈ H, x.bs.length ≤ 100000000) (hI : ∀ x ∈ I, x.bs.length ≤ 100000000) :
    Calls Tryd.prog 30 #[.pointer (some ⟨b, 0, none⟩)] w fun e w' => e = .returned (.bool true) ∧ Mods [] w0 w' := by
  have HT := Lib.hid (StR.turn h (by omega) hH)
  go_enter Tryd.func30, Tryd.ntmps30
  go_wp2_with fail
  refine HT.out.mono ?_
  rintro e w1 ⟨rfl, E1, hl, h1⟩
  have HT2 := Lib.hid (StR.turn h1 (by omega) hI)
  clear h h1 HT hl
  go_wp2_with fail
  refine HT2.out.mono ?_
  rintro e w2 ⟨rfl, E2, -, h2⟩
  have HM := Lib.hid h2.mods
  clear h2
  go_wp2_with fail
  go_ret
  exact ⟨rfl, HM.out⟩
theorem nilOne (p : Pc) (e : TypeId) : Pc.Ent p (p.star (Pc.row e 1 (.slice none 0 0) 0 [])) := fun w F h =>
  ⟨F ++ [], ⟨F, [], h, ⟨World.ownsRow_nil _ _ _ _, rfl⟩, by simp, rfl⟩, fun k hk => by simpa using hk⟩
theorem nilEn (p : Pc) : Pc.Ent p (p.star (MkE [])) := fun w F h => ⟨F ++ [], ⟨F, [], h, ⟨by simp, rfl⟩, by simp, rfl⟩, fun k hk => by simpa using hk⟩
/-- A new Book, a new hand. -/
theorem bkNew (b : Nat) : Pc.Ent (Pc.blk b (.cells #[.slice none 0 0, .slice none 0 0, .slice none 0 0, .slice none 0 0, .slice none 0 0, .slice none 0 0] 45)) (BkA b [] [] []) := by
  have e1 : Pc.Ent (Pc.row 43 1 (.slice none 0 0) 0 []) ((Pc.row 43 1 (.slice none 0 0) 0 []).star (Pc.row 43 1 (.slice none 0 0) 0 [])) := nilOne _ 43
  have e2 := e1.trans ((Pc.Ent.refl _).mono e1)
  have e3 := e1.trans ((Pc.Ent.refl _).mono e2)
  have e4 : Pc.Ent (Pc.row 43 1 (.slice none 0 0) 0 []) ((Pc.row 5 1 (.slice none 0 0) 0 []).star (Pc.row 43 1 (.slice none 0 0) 0 [])) := (nilOne _ 5).trans (Pc.Ent.comm _ _)
  have e5 := e1.trans ((Pc.Ent.refl _).mono (e4.trans ((Pc.Ent.refl _).mono e3)))
  refine Pc.Ent.to (.slice none 0 0, .slice none 0 0, .slice none 0 0, .slice none 0 0, .slice none 0 0, .slice none 0 0) ?_
  refine ((nilEn _).trans ((?_ : Pc.Ent _ _).mono ((Pc.Ent.emp _).trans ((Pc.Ent.refl _).mono (Pc.Ent.emp _)))))
  exact (nilOne _ 43).trans ((Pc.Ent.refl _).mono e5)
theorem rsNil (p : Pc) (T : TypeId) : Pc.Ent p ((RsP T []).star p) := fun w F h => ⟨[] ++ F, ⟨[], F, RsP.nil T w, h, by simp, rfl⟩, fun k hk => by simpa using hk⟩
theorem stNew (hb b : Nat) : Pc.Ent ((Pc.blk hb (.cells #[.slice none 0 0, .slice none 0 0, .pointer (some ⟨b, 0, none⟩)] 59)).star (Pc.blk b (.cells #[.slice none 0 0, .slice none 0 0, .slice none 0 0, .slice none 0 0, .slice none 0 0, .slice none 0 0] 45)))
    (StR hb b (.slice none 0 0) (.slice none 0 0) [] [] [] []) := by
  refine Pc.Ent.trans ?_ ((rsNil _ 132).trans (rsNil _ 130))
  refine (Pc.Ent.comm _ _).trans ((bkNew b).mono ?_)
  exact (nilOne _ 61).trans ((Pc.Ent.refl _).mono (nilOne _ 64))
end Go.Proofs.YtedddekkbgaolaaDoor
