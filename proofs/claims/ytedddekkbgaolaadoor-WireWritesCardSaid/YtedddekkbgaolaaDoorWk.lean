/- The walk of writes: one step of one writer, and of the document's. (Printed by wip/bin/genwr.py.) -/
import Derived.Test.YtedddekkbgaolaaDoorDo
import Derived.Test.YtedddekkbgaolaaDoorSc
namespace Go.Proofs.YtedddekkbgaolaaDoor
open Go.RowKit Me

def WSt.opnN (S : WSt) : Nat → WSt
  | 0 => S
  | n + 1 => (S.opnN n).opn.1
/-- Shut of the place that stands last in another one. -/
def WSt.shutAt (S V : WSt) : WSt := match V.opens.getLast? with | none => S | some q => S.shut (q : Int)
theorem shutAt_none {S V : WSt} (h : V.opens.getLast? = none) : S.shutAt V = S := by unfold WSt.shutAt; rw [h]
theorem shutAt_some {S V : WSt} {q : Nat} (h : V.opens.getLast? = some q) : S.shutAt V = S.shut (q : Int) := by unfold WSt.shutAt; rw [h]
/-- A step on a plain writer. -/
def WSt.wr (S : WSt) (o : OpP) : WSt :=
  if o.kind = 5 then S.put o.b else if o.kind = 12 then S.put (List.replicate (pickN o.k 70000) (UInt8.ofNat (o.n % 256))) else if o.kind = 6 then S.text o.s.data.toList
  else if o.kind = 13 then S.text (List.replicate (pickN o.k 70000) 120) else if o.kind = 7 then S.opn.1 else if o.kind = 14 then S.opnN (pickN o.k 40)
  else if o.kind = 8 then S.shut o.k else if o.kind = 9 then S.shutAt S else if o.kind = 10 then S else if o.kind = 11 then S else S.num o
/-- What a step hands out. -/
def WSt.outs (S : WSt) (o : OpP) : List (List UInt8) := if o.kind = 11 then [S.done.1, S.done.1] else []
/-- The state between two steps: both writers, the Book. -/
def W3 (a c b : Nat) (vl vm vh vt : Value) (S V : WSt) (B : List (List UInt8)) : Pc := (Wr 122 a S).star ((Wr 124 c V).star (BkN b vl vm vh vt B))
theorem num_none {S : WSt} {o : OpP} (h : 4 < o.kind ∨ o.kind < 1) : S.num o = S := by
  unfold WSt.num
  rw [if_neg (by omega), if_neg (by omega), if_neg (by omega), if_neg (by omega)]
/-- What a step needs of the world, behind whatever it does itself. -/
structure StepIn (w : World) (F : List Nat) (o : OpP) (vb : Value) : Prop where
  n : o.n < 18446744073709551616
  k : -9223372036854775808 ≤ o.k ∧ o.k ≤ 9223372036854775807
  bl : o.b.length ≤ 100000000
  sl : o.s.size ≤ 100000000
  rd : ∀ w', Mods F w w' → Rd w' vb (o.b.map byteV)
  tabs : ∀ w', Mods F w w' → Lib.Utf8Tabs 0 1 w'
theorem w3_box (p q r s : Pc) : Pc.Ent (s.star (p.star (q.star r))) ((p.star q).star (r.star s)) := (Pc.Ent.comm _ _).trans ((Pc.Ent.assoc _ _ _).trans (((Pc.Ent.refl p).mono (Pc.Ent.assoc q r s)).trans (Pc.Ent.assoc' _ _ _)))
theorem w3_end (p q r s : Pc) : Pc.Ent ((p.star q).star (r.star s)) (p.star (q.star r)) := ((Pc.Ent.refl _).mono (Pc.Ent.left r s)).trans (Pc.Ent.assoc _ _ _)
/-- The box's cells. -/
theorem boxO {w : World} {B : Nat} {who kind k : Int} {n : Nat} {vb : Value} {s : ByteArray} (h : w.heap[B]? = some (.cells #[.int .i64 who, .int .i64 kind, .int .u64 (n : Int), .int .i64 k, vb, .string s] 48 (0, 0))) : w.cell? ⟨B, 1, none⟩ = some (.int .i64 kind) ∧ w.cell? ⟨B, 2, none⟩ = some (.int .u64 (n : Int)) ∧
    w.cell? ⟨B, 3, none⟩ = some (.int .i64 k) ∧ w.cell? ⟨B, 4, none⟩ = some vb ∧ w.cell? ⟨B, 5, none⟩ = some (.string s) := by
  refine ⟨?_, ?_, ?_, ?_, ?_⟩ <;> (rw [cell_of_row _ _ _ _ _ _ h]; rfl)
set_option maxRecDepth 100000 in
set_option maxHeartbeats 1000000 in
theorem writes5 {w : World} {a c b : Nat} {S V : WSt} {vl vm vh vt : Value} {B : List (List UInt8)} {F : List Nat} (h : (W3 a c b vl vm vh vt S V B).A w F) (o : OpP) {vb : Value} (hi : StepIn w F o vb) (hk : o.kind = 5) :
    Calls Tryd.prog 25 #[.pointer (some ⟨a, 0, none⟩), .pointer (some ⟨c, 0, none⟩), opV o vb, .pointer (some ⟨b, 0, none⟩)] w fun e w' => e = .returned (.bool true) ∧ Post (W3 a c b vl vm vh vt (S.put o.b) (V.put o.b) B) w F w' := by
  have HI := Lib.hid hi
  obtain ⟨Ab, cb, rfl, -⟩ := rd_slice (hi.rd w (Mods.refl _ _))
  have H0 := Lib.hid (fun (x : Obj) => ((Post.start h).alloc x).ent (w3_box _ _ _ _))
  have HN := Lib.hid (fun (w' : World) (F' : List Nat) (hh : (W2 a c S V).A w' F') => numbers_any hh o hi.n (A := Ab) (nb := o.b.length) (cb := cb))
  rw [num_none (by omega), num_none (by omega)] at HN
  have hok := hi.k
  have hbl := hi.bl
  have hsl := hi.sl
  clear h hi
  obtain ⟨who, kind, n, k, bs, s⟩ := o
  simp only [opV] at *
  subst hk
  go_enter Tryd.func25, Tryd.ntmps25
  go_wp2_with fail
  refine ((H0.out _).call fun F1 hF => HN.out _ _ hF).mono ?_; rintro e w1 ⟨rfl, hp1⟩
  have H1 := Lib.hid hp1
  obtain ⟨b1, b2, b3, b4, b5⟩ := boxO (hp1.blkAt ((Pc.Ent.right _ _).trans (Pc.Ent.right _ _)))
  clear hp1
  go_wp2_with fail
  refine (H1.out.callm fun F1 hF hr => raw2_any hF bs (fun w' hm => HI.out.rd w' (hr w' hm).mods) hbl).mono ?_; rintro e w2 ⟨rfl, hp2⟩
  have H2 := Lib.hid hp2
  clear hp2
  go_wp2_with fail
  go_ret
  exact ⟨rfl, H2.out.ent (w3_end _ _ _ _)⟩
set_option maxRecDepth 100000 in
set_option maxHeartbeats 1000000 in
theorem writes12 {w : World} {a c b : Nat} {S V : WSt} {vl vm vh vt : Value} {B : List (List UInt8)} {F : List Nat} (h : (W3 a c b vl vm vh vt S V B).A w F) (o : OpP) {vb : Value} (hi : StepIn w F o vb) (hk : o.kind = 12) :
    Calls Tryd.prog 25 #[.pointer (some ⟨a, 0, none⟩), .pointer (some ⟨c, 0, none⟩), opV o vb, .pointer (some ⟨b, 0, none⟩)] w fun e w' => e = .returned (.bool true) ∧ Post (W3 a c b vl vm vh vt (S.put (List.replicate (pickN o.k 70000) (UInt8.ofNat (o.n % 256)))) (V.put (List.replicate (pickN o.k 70000) (UInt8.ofNat (o.n % 256)))) B) w F w' := by
  have HI := Lib.hid hi
  obtain ⟨Ab, cb, rfl, -⟩ := rd_slice (hi.rd w (Mods.refl _ _))
  have H0 := Lib.hid (fun (x : Obj) => ((Post.start h).alloc x).ent (w3_box _ _ _ _))
  have HN := Lib.hid (fun (w' : World) (F' : List Nat) (hh : (W2 a c S V).A w' F') => numbers_any hh o hi.n (A := Ab) (nb := o.b.length) (cb := cb))
  rw [num_none (by omega), num_none (by omega)] at HN
  have hok := hi.k
  have hbl := hi.bl
  have hsl := hi.sl
  clear h hi
  obtain ⟨who, kind, n, k, bs, s⟩ := o
  simp only [opV] at *
  subst hk
  go_enter Tryd.func25, Tryd.ntmps25
  go_wp2_with fail
  refine ((H0.out _).call fun F1 hF => HN.out _ _ hF).mono ?_; rintro e w1 ⟨rfl, hp1⟩
  have H1 := Lib.hid hp1
  obtain ⟨b1, b2, b3, b4, b5⟩ := boxO (hp1.blkAt ((Pc.Ent.right _ _).trans (Pc.Ent.right _ _)))
  clear hp1
  have hpk : pickN k 70000 < 70000 := by unfold pickN; exact Nat.mod_lt _ (by omega)
  have HPK := Lib.hid (fun w => pick_any k 70000 w hok.1 hok.2 (by omega) (by omega))
  have hby : (n : Int) % 256 = ((UInt8.ofNat (n % 256)).toNat : Int) := by
    rw [UInt8.toNat_ofNat']
    omega
  generalize hpp : pickN k 70000 = p at *
  generalize hyy : UInt8.ofNat (n % 256) = y at *
  have HPP := Lib.hid hpp
  have HYY := Lib.hid hyy
  have HBY := Lib.hid hby
  have HFI : Hid (∀ w : World, Calls Tryd.prog 46 #[.int .i64 (p : Int), .int .u8 ((n : Int) % 256)] w fun e w' => ∃ v, e = .returned v ∧ w'.ownsRow w.heap.size 5 1 v p ((List.replicate p y).map byteV) ∧ Mods [] w w') := Lib.hid (fun w => by
    rw [hby]
    refine (fill_any (B := w.heap.size) (Nat.le_refl _) (p : Int) (by omega) (by omega) y).mono ?_
    rintro e w3 ⟨v, rfl, ho, hm, -⟩
    refine ⟨v, rfl, by simpa using ho, by simpa [Value.ownBlock] using hm⟩)
  have H1d := Lib.hid (H1.out.still ((Mods.refl [] w1).drew))
  clear hby hpp hyy
  go_wp2_with fail
  go_region_with (first
    | (go_at_call 18; refine (HPK.out _).mono ?_; rintro e w2 ⟨rfl, rfl⟩; go_simp)
    | (go_at_call 46; refine (HFI.out _).mono ?_; rintro e w2 ⟨v, rfl, ho, hm⟩; have HO := Lib.hid ho; have HM := Lib.hid hm; obtain ⟨A3, c3, rfl⟩ := own_ctor ho; clear ho hm; go_simp)
    | (go_at_call 79; have hp3 := (H1d.out.add (q := rowOf (.slice A3 p c3) (List.replicate p y)) HM.out ⟨ownsRow_base (by simpa using HO.out) (Nat.zero_le _), rfl⟩ (fun k hk => (HO.out.lt k (by simpa using hk)).1)).ent (Pc.Ent.swap _ _ _); refine (hp3.callm fun F1 hF hr => raw2_any hF (List.replicate p y) (fun w' hm => Rd.of_own ((hr w' hm).rowAt (Pc.Ent.left _ _))) (by simp; omega)).mono ?_; rintro e w4 ⟨rfl, hp4⟩; have H4 := Lib.hid (hp4.ent ((Pc.Ent.refl _).mono (Pc.Ent.right _ _))); clear hp3 hp4; go_simp))
  all_goals
    go_wp2_with fail
    go_ret
    refine ⟨rfl, ?_⟩
    show Post (W3 a c b vl vm vh vt (S.put (List.replicate (pickN k 70000) (UInt8.ofNat (n % 256)))) (V.put (List.replicate (pickN k 70000) (UInt8.ofNat (n % 256)))) B) _ _ _
    rw [HPP.out, HYY.out]
    exact H4.out.ent (w3_end _ _ _ _)
set_option maxRecDepth 100000 in
set_option maxHeartbeats 1000000 in
theorem writes6 {w : World} {a c b : Nat} {S V : WSt} {vl vm vh vt : Value} {B : List (List UInt8)} {F : List Nat} (h : (W3 a c b vl vm vh vt S V B).A w F) (o : OpP) {vb : Value} (hi : StepIn w F o vb) (hk : o.kind = 6) :
    Calls Tryd.prog 25 #[.pointer (some ⟨a, 0, none⟩), .pointer (some ⟨c, 0, none⟩), opV o vb, .pointer (some ⟨b, 0, none⟩)] w fun e w' => e = .returned (.bool true) ∧ Post (W3 a c b vl vm vh vt (S.text o.s.data.toList) (V.text o.s.data.toList) B) w F w' := by
  have HI := Lib.hid hi
  obtain ⟨Ab, cb, rfl, -⟩ := rd_slice (hi.rd w (Mods.refl _ _))
  have H0 := Lib.hid (fun (x : Obj) => ((Post.start h).alloc x).ent (w3_box _ _ _ _))
  have HN := Lib.hid (fun (w' : World) (F' : List Nat) (hh : (W2 a c S V).A w' F') => numbers_any hh o hi.n (A := Ab) (nb := o.b.length) (cb := cb))
  rw [num_none (by omega), num_none (by omega)] at HN
  have hok := hi.k
  have hbl := hi.bl
  have hsl := hi.sl
  clear h hi
  obtain ⟨who, kind, n, k, bs, s⟩ := o
  simp only [opV] at *
  subst hk
  go_enter Tryd.func25, Tryd.ntmps25
  go_wp2_with fail
  refine ((H0.out _).call fun F1 hF => HN.out _ _ hF).mono ?_; rintro e w1 ⟨rfl, hp1⟩
  have H1 := Lib.hid hp1
  obtain ⟨b1, b2, b3, b4, b5⟩ := boxO (hp1.blkAt ((Pc.Ent.right _ _).trans (Pc.Ent.right _ _)))
  clear hp1
  have Ha := Lib.hid (H1.out.ent (Pc.Ent.assoc _ _ _))
  go_wp2_with fail
  refine (Ha.out.wr fun vb vo hi => text_any hi s (by unfold maxLen; omega) (HI.out.tabs _ Ha.out.mods)).mono ?_; rintro e w2 ⟨rfl, hp2⟩
  have H2 := Lib.hid (hp2.ent (Pc.Ent.swap _ _ _))
  obtain ⟨b1, b2, b3, b4, b5⟩ := boxO (hp2.blkAt ((Pc.Ent.right _ _).trans ((Pc.Ent.right _ _).trans (Pc.Ent.right _ _))))
  clear hp2
  go_wp2_with fail
  refine (H2.out.wr fun vb vo hi => vtext_any hi s (by omega)).mono ?_; rintro e w3 ⟨rfl, hp3⟩
  have H3 := Lib.hid (hp3.ent ((Pc.Ent.swap _ _ _).trans (Pc.Ent.assoc' _ _ _)))
  clear hp3
  go_wp2_with fail
  go_ret
  exact ⟨rfl, H3.out.ent (w3_end _ _ _ _)⟩
set_option maxRecDepth 100000 in
set_option maxHeartbeats 1000000 in
theorem writes7 {w : World} {a c b : Nat} {S V : WSt} {vl vm vh vt : Value} {B : List (List UInt8)} {F : List Nat} (h : (W3 a c b vl vm vh vt S V B).A w F) (o : OpP) {vb : Value} (hi : StepIn w F o vb) (hk : o.kind = 7) :
    Calls Tryd.prog 25 #[.pointer (some ⟨a, 0, none⟩), .pointer (some ⟨c, 0, none⟩), opV o vb, .pointer (some ⟨b, 0, none⟩)] w fun e w' => e = .returned (.bool (decide (S.opn.2 = V.opn.2))) ∧ Post (W3 a c b vl vm vh vt S.opn.1 V.opn.1 B) w F w' := by
  have HI := Lib.hid hi
  obtain ⟨Ab, cb, rfl, -⟩ := rd_slice (hi.rd w (Mods.refl _ _))
  have H0 := Lib.hid (fun (x : Obj) => ((Post.start h).alloc x).ent (w3_box _ _ _ _))
  have HN := Lib.hid (fun (w' : World) (F' : List Nat) (hh : (W2 a c S V).A w' F') => numbers_any hh o hi.n (A := Ab) (nb := o.b.length) (cb := cb))
  rw [num_none (by omega), num_none (by omega)] at HN
  have hok := hi.k
  have hbl := hi.bl
  have hsl := hi.sl
  clear h hi
  obtain ⟨who, kind, n, k, bs, s⟩ := o
  simp only [opV] at *
  subst hk
  go_enter Tryd.func25, Tryd.ntmps25
  go_wp2_with fail
  refine ((H0.out _).call fun F1 hF => HN.out _ _ hF).mono ?_; rintro e w1 ⟨rfl, hp1⟩
  have H1 := Lib.hid hp1
  obtain ⟨b1, b2, b3, b4, b5⟩ := boxO (hp1.blkAt ((Pc.Ent.right _ _).trans (Pc.Ent.right _ _)))
  clear hp1
  go_wp2_with fail
  refine (H1.out.call fun F1 hF => opens_any hF).mono ?_; rintro e w2 ⟨rfl, hp2⟩
  have H2 := Lib.hid hp2
  clear hp2
  go_wp2_with fail
  go_ret
  exact ⟨rfl, H2.out.ent (w3_end _ _ _ _)⟩
set_option maxRecDepth 100000 in
set_option maxHeartbeats 1000000 in
theorem writes8 {w : World} {a c b : Nat} {S V : WSt} {vl vm vh vt : Value} {B : List (List UInt8)} {F : List Nat} (h : (W3 a c b vl vm vh vt S V B).A w F) (o : OpP) {vb : Value} (hi : StepIn w F o vb) (hk : o.kind = 8) :
    Calls Tryd.prog 25 #[.pointer (some ⟨a, 0, none⟩), .pointer (some ⟨c, 0, none⟩), opV o vb, .pointer (some ⟨b, 0, none⟩)] w fun e w' => e = .returned (.bool true) ∧ Post (W3 a c b vl vm vh vt (S.shut o.k) (V.shut o.k) B) w F w' := by
  have HI := Lib.hid hi
  obtain ⟨Ab, cb, rfl, -⟩ := rd_slice (hi.rd w (Mods.refl _ _))
  have H0 := Lib.hid (fun (x : Obj) => ((Post.start h).alloc x).ent (w3_box _ _ _ _))
  have HN := Lib.hid (fun (w' : World) (F' : List Nat) (hh : (W2 a c S V).A w' F') => numbers_any hh o hi.n (A := Ab) (nb := o.b.length) (cb := cb))
  rw [num_none (by omega), num_none (by omega)] at HN
  have hok := hi.k
  have hbl := hi.bl
  have hsl := hi.sl
  clear h hi
  obtain ⟨who, kind, n, k, bs, s⟩ := o
  simp only [opV] at *
  subst hk
  go_enter Tryd.func25, Tryd.ntmps25
  go_wp2_with fail
  refine ((H0.out _).call fun F1 hF => HN.out _ _ hF).mono ?_; rintro e w1 ⟨rfl, hp1⟩
  have H1 := Lib.hid hp1
  obtain ⟨b1, b2, b3, b4, b5⟩ := boxO (hp1.blkAt ((Pc.Ent.right _ _).trans (Pc.Ent.right _ _)))
  clear hp1
  have Ha := Lib.hid (H1.out.ent (Pc.Ent.assoc _ _ _))
  go_wp2_with fail
  refine (Ha.out.wr fun vb vo hi => shut_any hi k).mono ?_; rintro e w2 ⟨rfl, hp2⟩
  have H2 := Lib.hid (hp2.ent (Pc.Ent.swap _ _ _))
  obtain ⟨b1, b2, b3, b4, b5⟩ := boxO (hp2.blkAt ((Pc.Ent.right _ _).trans ((Pc.Ent.right _ _).trans (Pc.Ent.right _ _))))
  clear hp2
  go_wp2_with fail
  refine (H2.out.wr fun vb vo hi => vshut_any hi k).mono ?_; rintro e w3 ⟨rfl, hp3⟩
  have H3 := Lib.hid (hp3.ent ((Pc.Ent.swap _ _ _).trans (Pc.Ent.assoc' _ _ _)))
  clear hp3
  go_wp2_with fail
  go_ret
  exact ⟨rfl, H3.out.ent (w3_end _ _ _ _)⟩
set_option maxRecDepth 100000 in
set_option maxHeartbeats 1000000 in
theorem writes10 {w : World} {a c b : Nat} {S V : WSt} {vl vm vh vt : Value} {B : List (List UInt8)} {F : List Nat} (h : (W3 a c b vl vm vh vt S V B).A w F) (o : OpP) {vb : Value} (hi : StepIn w F o vb) (hk : o.kind = 10) :
    Calls Tryd.prog 25 #[.pointer (some ⟨a, 0, none⟩), .pointer (some ⟨c, 0, none⟩), opV o vb, .pointer (some ⟨b, 0, none⟩)] w fun e w' => e = .returned (.bool (decide (S.bytes.length = V.bytes.length))) ∧ Post (W3 a c b vl vm vh vt S V B) w F w' := by
  have HI := Lib.hid hi
  obtain ⟨Ab, cb, rfl, -⟩ := rd_slice (hi.rd w (Mods.refl _ _))
  have H0 := Lib.hid (fun (x : Obj) => ((Post.start h).alloc x).ent (w3_box _ _ _ _))
  have HN := Lib.hid (fun (w' : World) (F' : List Nat) (hh : (W2 a c S V).A w' F') => numbers_any hh o hi.n (A := Ab) (nb := o.b.length) (cb := cb))
  rw [num_none (by omega), num_none (by omega)] at HN
  have hok := hi.k
  have hbl := hi.bl
  have hsl := hi.sl
  clear h hi
  obtain ⟨who, kind, n, k, bs, s⟩ := o
  simp only [opV] at *
  subst hk
  go_enter Tryd.func25, Tryd.ntmps25
  go_wp2_with fail
  refine ((H0.out _).call fun F1 hF => HN.out _ _ hF).mono ?_; rintro e w1 ⟨rfl, hp1⟩
  have H1 := Lib.hid hp1
  obtain ⟨b1, b2, b3, b4, b5⟩ := boxO (hp1.blkAt ((Pc.Ent.right _ _).trans (Pc.Ent.right _ _)))
  clear hp1
  obtain ⟨x1, y1, i1⟩ := (H1.out.ent (Pc.Ent.assoc _ _ _)).isW
  obtain ⟨x2, y2, i2⟩ := (H1.out.ent ((Pc.Ent.assoc _ _ _).trans (Pc.Ent.swap _ _ _))).isW
  have I1 := Lib.hid (len_any i1)
  have I2 := Lib.hid (vlen_any i2)
  clear i1 i2
  go_wp2_with fail
  refine I1.out.mono ?_; rintro e w2 ⟨rfl, rfl⟩
  go_wp2_with fail
  refine I2.out.mono ?_; rintro e w3 ⟨rfl, rfl⟩
  have HNB := Lib.hid (nat_beq S.bytes.length V.bytes.length)
  go_wp2_with fail
  go_ret
  exact ⟨congrArg (fun r => Ending.returned (Value.bool r)) HNB.out, H1.out.ent (w3_end _ _ _ _)⟩
set_option maxRecDepth 100000 in
set_option maxHeartbeats 1000000 in
theorem writes11 {w : World} {a c b : Nat} {S V : WSt} {vl vm vh vt : Value} {B : List (List UInt8)} {F : List Nat} (h : (W3 a c b vl vm vh vt S V B).A w F) (hB : B.length ≤ 90000000) (o : OpP) {vb : Value} (hi : StepIn w F o vb) (hk : o.kind = 11) :
    Calls Tryd.prog 25 #[.pointer (some ⟨a, 0, none⟩), .pointer (some ⟨c, 0, none⟩), opV o vb, .pointer (some ⟨b, 0, none⟩)] w fun e w' => ∃ res : Bool, (S = V → res = true) ∧ e = .returned (.bool res) ∧ Post (W3 a c b vl vm vh vt S V (B ++ [S.done.1] ++ [S.done.1])) w F w' := by
  have HI := Lib.hid hi
  obtain ⟨Ab, cb, rfl, -⟩ := rd_slice (hi.rd w (Mods.refl _ _))
  have H0 := Lib.hid (fun (x : Obj) => ((Post.start h).alloc x).ent (w3_box _ _ _ _))
  have HN := Lib.hid (fun (w' : World) (F' : List Nat) (hh : (W2 a c S V).A w' F') => numbers_any hh o hi.n (A := Ab) (nb := o.b.length) (cb := cb))
  rw [num_none (by omega), num_none (by omega)] at HN
  have hok := hi.k
  have hbl := hi.bl
  have hsl := hi.sl
  clear h hi
  obtain ⟨who, kind, n, k, bs, s⟩ := o
  simp only [opV] at *
  subst hk
  go_enter Tryd.func25, Tryd.ntmps25
  go_wp2_with fail
  refine ((H0.out _).call fun F1 hF => HN.out _ _ hF).mono ?_; rintro e w1 ⟨rfl, hp1⟩
  have H1 := Lib.hid hp1
  obtain ⟨b1, b2, b3, b4, b5⟩ := boxO (hp1.blkAt ((Pc.Ent.right _ _).trans (Pc.Ent.right _ _)))
  clear hp1
  have Ha := Lib.hid (H1.out.ent ((Pc.Ent.assoc' _ _ _).trans ((Pc.Ent.assoc _ _ _).mono (Pc.Ent.refl _))))
  go_wp2_with fail
  refine (Ha.out.calle fun F1 hF => done2_any hF (by omega)).mono ?_; rintro e w2 ⟨res, hres, rfl, hp2⟩
  have H2 := Lib.hid (hp2.ent (Pc.Ent.left _ _))
  have HRES := Lib.hid hres
  clear hp2 hres
  go_wp2_with fail
  go_ret
  exact ⟨res, HRES.out, rfl, H2.out⟩
theorem rep_list (p : Nat) (y : UInt8) : (⟨(List.replicate p y).toArray⟩ : ByteArray).data.toList = List.replicate p y := by simp
theorem rep_size (p : Nat) (y : UInt8) : (⟨(List.replicate p y).toArray⟩ : ByteArray).size = p := by simp [ByteArray.size]
set_option maxRecDepth 100000 in
set_option maxHeartbeats 1000000 in
theorem writes13 {w : World} {a c b : Nat} {S V : WSt} {vl vm vh vt : Value} {B : List (List UInt8)} {F : List Nat} (h : (W3 a c b vl vm vh vt S V B).A w F) (o : OpP) {vb : Value} (hi : StepIn w F o vb) (hk : o.kind = 13) :
    Calls Tryd.prog 25 #[.pointer (some ⟨a, 0, none⟩), .pointer (some ⟨c, 0, none⟩), opV o vb, .pointer (some ⟨b, 0, none⟩)] w fun e w' => e = .returned (.bool true) ∧ Post (W3 a c b vl vm vh vt (S.text (List.replicate (pickN o.k 70000) 120)) (V.text (List.replicate (pickN o.k 70000) 120)) B) w F w' := by
  have HI := Lib.hid hi
  obtain ⟨Ab, cb, rfl, -⟩ := rd_slice (hi.rd w (Mods.refl _ _))
  have H0 := Lib.hid (fun (x : Obj) => ((Post.start h).alloc x).ent (w3_box _ _ _ _))
  have HN := Lib.hid (fun (w' : World) (F' : List Nat) (hh : (W2 a c S V).A w' F') => numbers_any hh o hi.n (A := Ab) (nb := o.b.length) (cb := cb))
  rw [num_none (by omega), num_none (by omega)] at HN
  have hok := hi.k
  have hbl := hi.bl
  have hsl := hi.sl
  clear h hi
  obtain ⟨who, kind, n, k, bs, s⟩ := o
  simp only [opV] at *
  subst hk
  go_enter Tryd.func25, Tryd.ntmps25
  go_wp2_with fail
  refine ((H0.out _).call fun F1 hF => HN.out _ _ hF).mono ?_; rintro e w1 ⟨rfl, hp1⟩
  have H1 := Lib.hid hp1
  obtain ⟨b1, b2, b3, b4, b5⟩ := boxO (hp1.blkAt ((Pc.Ent.right _ _).trans (Pc.Ent.right _ _)))
  clear hp1
  have hpk : pickN k 70000 < 70000 := by unfold pickN; exact Nat.mod_lt _ (by omega)
  have HPK := Lib.hid (fun w => pick_any k 70000 w hok.1 hok.2 (by omega) (by omega))
  generalize hpp : pickN k 70000 = p at *
  have HPP := Lib.hid hpp
  have HFI : Hid (∀ w : World, Calls Tryd.prog 46 #[.int .i64 (p : Int), .int .u8 120] w fun e w' => ∃ v, e = .returned v ∧ w'.ownsRow w.heap.size 5 1 v p ((List.replicate p 120).map byteV) ∧ Mods [] w w') := Lib.hid (fun w => by
    refine (fill_any (B := w.heap.size) (Nat.le_refl _) (p : Int) (by omega) (by omega) 120).mono ?_
    rintro e w3 ⟨v, rfl, ho, hm, -⟩
    refine ⟨v, rfl, by simpa using ho, by simpa [Value.ownBlock] using hm⟩)
  clear hpp
  go_wp2_with fail
  refine (HPK.out _).mono ?_; rintro e w2 ⟨rfl, rfl⟩
  go_wp2_with fail
  refine (HFI.out _).mono ?_; rintro e w3 ⟨v, rfl, ho, hm⟩
  obtain ⟨A3, c3, rfl⟩ := own_ctor ho
  have hC := conv_own (L := List.replicate p 120) (by simpa using ho)
  have HRL := Lib.hid (rep_list p 120)
  have hrs := rep_size p 120
  generalize (⟨(List.replicate p 120).toArray⟩ : ByteArray) = X at *
  have Ha := Lib.hid ((H1.out.still hm).ent (Pc.Ent.assoc _ _ _))
  clear ho hm
  go_wp2_with fail
  refine (Ha.out.wr fun vb vo hi => text_any hi X (by unfold maxLen; omega) (HI.out.tabs _ Ha.out.mods)).mono ?_; rintro e w4 ⟨rfl, hp4⟩
  have H4 := Lib.hid (hp4.ent (Pc.Ent.swap _ _ _))
  clear hp4 hC
  go_wp2_with fail
  refine (H4.out.wr fun vb vo hi => vtext_any hi X (by omega)).mono ?_; rintro e w5 ⟨rfl, hp5⟩
  have H5 := Lib.hid (hp5.ent ((Pc.Ent.swap _ _ _).trans (Pc.Ent.assoc' _ _ _)))
  clear hp5
  go_wp2_with fail
  go_ret
  refine ⟨rfl, ?_⟩
  show Post (W3 a c b vl vm vh vt (S.text (List.replicate (pickN k 70000) 120)) (V.text (List.replicate (pickN k 70000) 120)) B) _ _ _
  rw [HPP.out, ← HRL.out]
  exact H5.out.ent (w3_end _ _ _ _)
/-- A writer's places, read. -/
theorem Me.Post.opens {a c b : Nat} {S V : WSt} {vl vm vh vt : Value} {B : List (List UInt8)} {w w1 : World} {F : List Nat} {o : Obj} {k : Nat} (h : Post ((W2 a c S V).star ((BkN b vl vm vh vt B).star (Pc.blk k o))) w F w1) :
    ∃ vo, w1.cell? ⟨c, 2, none⟩ = some vo ∧ w1.ownsRow 0 3 1 vo V.opens.length (V.opens.map intV) := by
  obtain ⟨x2, y2, i2⟩ := (h.ent ((Pc.Ent.assoc _ _ _).trans (Pc.Ent.swap _ _ _))).isW
  obtain ⟨-, -, c2, -⟩ := cell4 i2.cells
  exact ⟨y2, c2, i2.o⟩
set_option maxRecDepth 100000 in
set_option maxHeartbeats 1000000 in
theorem writes9 {w : World} {a c b : Nat} {S V : WSt} {vl vm vh vt : Value} {B : List (List UInt8)} {F : List Nat} (h : (W3 a c b vl vm vh vt S V B).A w F) (o : OpP) {vb : Value} (hi : StepIn w F o vb) (hk : o.kind = 9) :
    Calls Tryd.prog 25 #[.pointer (some ⟨a, 0, none⟩), .pointer (some ⟨c, 0, none⟩), opV o vb, .pointer (some ⟨b, 0, none⟩)] w fun e w' => e = .returned (.bool true) ∧ Post (W3 a c b vl vm vh vt (S.shutAt V) (V.shutAt V) B) w F w' := by
  have HI := Lib.hid hi
  obtain ⟨Ab, cb, rfl, -⟩ := rd_slice (hi.rd w (Mods.refl _ _))
  have H0 := Lib.hid (fun (x : Obj) => ((Post.start h).alloc x).ent (w3_box _ _ _ _))
  have HN := Lib.hid (fun (w' : World) (F' : List Nat) (hh : (W2 a c S V).A w' F') => numbers_any hh o hi.n (A := Ab) (nb := o.b.length) (cb := cb))
  rw [num_none (by omega), num_none (by omega)] at HN
  have hok := hi.k
  have hbl := hi.bl
  have hsl := hi.sl
  clear h hi
  obtain ⟨who, kind, n, k, bs, s⟩ := o
  simp only [opV] at *
  subst hk
  go_enter Tryd.func25, Tryd.ntmps25
  go_wp2_with fail
  refine ((H0.out _).call fun F1 hF => HN.out _ _ hF).mono ?_; rintro e w1 ⟨rfl, hp1⟩
  have H1 := Lib.hid hp1
  obtain ⟨b1, b2, b3, b4, b5⟩ := boxO (hp1.blkAt ((Pc.Ent.right _ _).trans (Pc.Ent.right _ _)))
  clear hp1
  obtain ⟨vo, c2, ho⟩ := H1.out.opens
  rcases List.eq_nil_or_concat V.opens with hs | ⟨os, p, hs⟩
  · have hol : V.opens.length = 0 := by rw [hs]; rfl
    have HE : Hid (V.opens.getLast? = none) := Lib.hid (by rw [hs]; rfl)
    obtain ⟨A3, c3, rfl⟩ := own_ctor ho
    clear ho hs
    generalize V.opens.length = sl at *
    subst hol
    go_wp2_with fail
    go_ret
    refine ⟨rfl, ?_⟩
    rw [shutAt_none HE.out, shutAt_none HE.out]
    exact H1.out.ent (w3_end _ _ _ _)
  · rw [List.concat_eq_append] at hs
    have HE : Hid (V.opens.getLast? = some p) := Lib.hid (by rw [hs]; simp)
    have hol : V.opens.length = os.length + 1 := by rw [hs]; simp
    obtain ⟨A3, c3, rfl⟩ := own_ctor ho
    rw [hs] at ho
    obtain ⟨gp, rfl⟩ : ∃ gp, A3 = some ⟨gp, 0, none⟩ := by
      rcases ownsRow_form ho with ⟨_, h1, _⟩ | ⟨g', c', h1, _⟩
      · simp at h1
      · injection h1 with h1 _ _
        exact ⟨g', h1⟩
    have htop : w1.cell? ⟨gp, os.length, none⟩ = some (.int .i64 (p : Int)) := by
      have := ho.cells rfl os.length (intV p) (by simp)
      simpa [Addr.add_lit, intV] using this
    have hob : os.length ≤ 100000000 := by
      obtain ⟨x1, y1, i1⟩ := (H1.out.ent ((Pc.Ent.assoc _ _ _).trans (Pc.Ent.swap _ _ _))).isW
      have h1 := i1.wf.many
      have h2 := i1.wf.bytes
      have h3 := i1.wf.limit
      omega
    have Hq := Lib.hid (fun k => (H1.out.still ((Mods.refl [] w1).drewN k)).ent (Pc.Ent.assoc _ _ _))
    rw [hol] at c2
    have hoc : os.length + 1 ≤ c3 := by
      obtain ⟨_, _, e, h1, _⟩ := ownsRow_slice ho
      injection e with _ e2 e3
      simp at h1
      omega
    clear ho hs hol
    go_wp2_with fail
    go_quiet (fail)
    have Ha := Lib.hid (Hq.out nq)
    generalize w1.drewN nq = w1' at *
    go_wp2_with fail
    refine (Ha.out.wr fun vb vo hi => shut_any hi (p : Int)).mono ?_; rintro e w2 ⟨rfl, hp2⟩
    have H2 := Lib.hid (hp2.ent (Pc.Ent.swap _ _ _))
    clear hp2
    go_wp2_with fail
    refine (H2.out.wr fun vb vo hi => vshut_any hi (p : Int)).mono ?_; rintro e w3 ⟨rfl, hp3⟩
    have H3 := Lib.hid (hp3.ent ((Pc.Ent.swap _ _ _).trans (Pc.Ent.assoc' _ _ _)))
    clear hp3
    go_wp2_with fail
    go_ret
    refine ⟨rfl, ?_⟩
    rw [shutAt_some HE.out, shutAt_some HE.out]
    exact H3.out.ent (w3_end _ _ _ _)
def RelOp (w : World) (F : List Nat) (a c b : Nat) (vl vm vh vt : Value) (S V : WSt) (B : List (List UInt8)) (k : Nat) (o : Obj) (p : Nat) (i : Value) (wr : World) : Prop :=
  ∃ j : Nat, j ≤ p ∧ i = .int .i64 j ∧ Post ((W2 a c (S.opnN j) (V.opnN j)).star ((BkN b vl vm vh vt B).star (Pc.blk k o))) w F wr
set_option maxRecDepth 100000 in
set_option maxHeartbeats 1000000 in
theorem writes14 {w : World} {a c b : Nat} {S V : WSt} {vl vm vh vt : Value} {B : List (List UInt8)} {F : List Nat} (h : (W3 a c b vl vm vh vt S V B).A w F) (o : OpP) {vb : Value} (hi : StepIn w F o vb) (hk : o.kind = 14) :
    Calls Tryd.prog 25 #[.pointer (some ⟨a, 0, none⟩), .pointer (some ⟨c, 0, none⟩), opV o vb, .pointer (some ⟨b, 0, none⟩)] w fun e w' => ∃ (res : Bool) (j : Nat), (S = V → res = true ∧ j = pickN o.k 40) ∧ e = .returned (.bool res) ∧ Post (W3 a c b vl vm vh vt (S.opnN j) (V.opnN j) B) w F w' := by
  have HI := Lib.hid hi
  obtain ⟨Ab, cb, rfl, -⟩ := rd_slice (hi.rd w (Mods.refl _ _))
  have H0 := Lib.hid (fun (x : Obj) => ((Post.start h).alloc x).ent (w3_box _ _ _ _))
  have HN := Lib.hid (fun (w' : World) (F' : List Nat) (hh : (W2 a c S V).A w' F') => numbers_any hh o hi.n (A := Ab) (nb := o.b.length) (cb := cb))
  rw [num_none (by omega), num_none (by omega)] at HN
  have hok := hi.k
  have hbl := hi.bl
  have hsl := hi.sl
  clear h hi
  obtain ⟨who, kind, n, k, bs, s⟩ := o
  simp only [opV] at *
  subst hk
  go_enter Tryd.func25, Tryd.ntmps25
  go_wp2_with fail
  refine ((H0.out _).call fun F1 hF => HN.out _ _ hF).mono ?_; rintro e w1 ⟨rfl, hp1⟩
  have H1 := Lib.hid hp1
  obtain ⟨b1, b2, b3, b4, b5⟩ := boxO (hp1.blkAt ((Pc.Ent.right _ _).trans (Pc.Ent.right _ _)))
  clear hp1
  have hpk : pickN k 40 < 40 := by unfold pickN; exact Nat.mod_lt _ (by omega)
  have HPK := Lib.hid (fun w => pick_any k 40 w hok.1 hok.2 (by omega) (by omega))
  generalize hpp : pickN k 40 = p at *
  have HPP := Lib.hid hpp
  clear hpp
  go_wp2_with fail
  go_loopw [10] (fun i wr => RelOp w F a c b vl vm vh vt S V B w.heap.size _ p i wr) (fun i _ => p - (intOf i).toNat)
  case atStart => exact ⟨0, by omega, rfl, H1.out⟩
  case round =>
    obtain ⟨j, hj, rfl, hp⟩ := hrel
    have HP := Lib.hid hp
    clear b1 b2 b3 b4 b5
    obtain ⟨b1, b2, b3, b4, b5⟩ := boxO (hp.blkAt ((Pc.Ent.right _ _).trans (Pc.Ent.right _ _)))
    clear hp
    rcases Nat.lt_or_ge j p with hlt | hge
    · have HSV : Hid (S = V → decide ((S.opnN j).opn.2 = (V.opnN j).opn.2) = true) := Lib.hid (by rintro rfl; simp)
      have HOP := Lib.hid (fun (w' : World) (F' : List Nat) (hh : (W2 a c (S.opnN j) (V.opnN j)).A w' F') => opens_any hh)
      generalize decide ((S.opnN j).opn.2 = (V.opnN j).opn.2) = r1 at *
      go_wp2_with fail
      refine (HPK.out _).mono ?_; rintro e w2 ⟨rfl, rfl⟩
      go_wp2_with fail
      refine (HP.out.call fun F1 hF => HOP.out _ _ hF).mono ?_; rintro e w3 ⟨rfl, hp3⟩
      have H3 := Lib.hid hp3
      clear hp3
      cases r1
      · go_wp2_with fail
        go_ret
        exact ⟨false, j + 1, fun h => absurd (HSV.out h) (by simp), rfl, H3.out.ent (w3_end _ _ _ _)⟩
      · go_wp2_with fail
        exact ⟨⟨j + 1, by omega, rfl, H3.out⟩, by simp only [intOf]; omega⟩
    · obtain rfl : j = p := by omega
      go_wp2_with fail
      refine (HPK.out _).mono ?_; rintro e w2 ⟨rfl, rfl⟩
      go_wp2_with fail
      go_ret
      refine ⟨true, j, fun _ => ⟨rfl, ?_⟩, rfl, HP.out.ent (w3_end _ _ _ _)⟩
      exact HPP.out.symm
set_option maxRecDepth 100000 in
set_option maxHeartbeats 1000000 in
theorem writes0 {w : World} {a c b : Nat} {S V : WSt} {vl vm vh vt : Value} {B : List (List UInt8)} {F : List Nat} (h : (W3 a c b vl vm vh vt S V B).A w F) (o : OpP) {vb : Value} (hi : StepIn w F o vb) (hk : o.kind < 5 ∨ 14 < o.kind) :
    Calls Tryd.prog 25 #[.pointer (some ⟨a, 0, none⟩), .pointer (some ⟨c, 0, none⟩), opV o vb, .pointer (some ⟨b, 0, none⟩)] w fun e w' => e = .returned (.bool true) ∧ Post (W3 a c b vl vm vh vt (S.num o) (V.num o) B) w F w' := by
  have HI := Lib.hid hi
  obtain ⟨Ab, cb, rfl, -⟩ := rd_slice (hi.rd w (Mods.refl _ _))
  have H0 := Lib.hid (fun (x : Obj) => ((Post.start h).alloc x).ent (w3_box _ _ _ _))
  have HN := Lib.hid (fun (w' : World) (F' : List Nat) (hh : (W2 a c S V).A w' F') => numbers_any hh o hi.n (A := Ab) (nb := o.b.length) (cb := cb))
  have hok := hi.k
  have hbl := hi.bl
  have hsl := hi.sl
  clear h hi
  obtain ⟨who, kind, n, k, bs, s⟩ := o
  simp only [opV] at *
  have e5 : (kind == 5) = false := by rw [beq_eq_false_iff_ne]; omega
  have e6 : (kind == 6) = false := by rw [beq_eq_false_iff_ne]; omega
  have e7 : (kind == 7) = false := by rw [beq_eq_false_iff_ne]; omega
  have e8 : (kind == 8) = false := by rw [beq_eq_false_iff_ne]; omega
  have e9 : (kind == 9) = false := by rw [beq_eq_false_iff_ne]; omega
  have e10 : (kind == 10) = false := by rw [beq_eq_false_iff_ne]; omega
  have e11 : (kind == 11) = false := by rw [beq_eq_false_iff_ne]; omega
  have e12 : (kind == 12) = false := by rw [beq_eq_false_iff_ne]; omega
  have e13 : (kind == 13) = false := by rw [beq_eq_false_iff_ne]; omega
  have e14 : (kind == 14) = false := by rw [beq_eq_false_iff_ne]; omega
  generalize hSn : S.num _ = Sn at *
  generalize hVn : V.num _ = Vn at *
  clear hk hSn hVn
  go_enter Tryd.func25, Tryd.ntmps25
  go_wp2_with fail
  refine ((H0.out _).call fun F1 hF => HN.out _ _ hF).mono ?_; rintro e w1 ⟨rfl, hp1⟩
  have H1 := Lib.hid hp1
  obtain ⟨b1, b2, b3, b4, b5⟩ := boxO (hp1.blkAt ((Pc.Ent.right _ _).trans (Pc.Ent.right _ _)))
  clear hp1
  go_wp2_with fail
  go_ret
  exact ⟨rfl, H1.out.ent (w3_end _ _ _ _)⟩
theorem opnN_eq {S V : WSt} (h : S = V) (j : Nat) : S.opnN j = V.opnN j := by rw [h]
theorem text_err {S : WSt} (l : List UInt8) (h : S.err ≠ 0) : S.text l = S := if_pos h
theorem opn_err {S : WSt} (h : S.err ≠ 0) : S.opn.1 = S := by
  unfold WSt.opn
  rw [WSt.put_err _ h, if_pos h]
theorem shut_errs {S : WSt} (p : Int) (h : S.err ≠ 0) : S.shut p = S := if_pos h
theorem opnN_err {S : WSt} (h : S.err ≠ 0) : ∀ j, S.opnN j = S
  | 0 => rfl
  | j + 1 => by
    show (S.opnN j).opn.1 = S
    rw [opnN_err h j, opn_err h]
theorem num_err {S : WSt} (o : OpP) (h : S.err ≠ 0) : S.num o = S := by
  unfold WSt.num
  repeat' split
  all_goals first | rfl | exact WSt.put_err _ h
theorem shutAt_err {S : WSt} (V : WSt) (h : S.err ≠ 0) : S.shutAt V = S := by
  unfold WSt.shutAt
  split
  · rfl
  · exact shut_errs _ h
theorem put_limit (S : WSt) (l : List UInt8) : (S.put l).limit = S.limit := by
  unfold WSt.put
  repeat' split
  all_goals rfl
theorem text_limit (S : WSt) (l : List UInt8) : (S.text l).limit = S.limit := by
  unfold WSt.text
  repeat' split
  all_goals first | rfl | exact put_limit _ _
theorem opn_limit (S : WSt) : S.opn.1.limit = S.limit := by
  unfold WSt.opn
  split
  · exact put_limit _ _
  · exact put_limit _ _
theorem opnN_limit (S : WSt) : ∀ j, (S.opnN j).limit = S.limit
  | 0 => rfl
  | j + 1 => (opn_limit _).trans (opnN_limit S j)
theorem shut_limit (S : WSt) (p : Int) : (S.shut p).limit = S.limit := by
  unfold WSt.shut
  split
  · rfl
  · split
    · rfl
    · split
      · rfl
      · split
        · rfl
        · rfl
theorem shutAt_limit (S V : WSt) : (S.shutAt V).limit = S.limit := by
  unfold WSt.shutAt
  split
  · rfl
  · exact shut_limit _ _
theorem num_limit (S : WSt) (o : OpP) : (S.num o).limit = S.limit := by
  unfold WSt.num
  repeat' split
  all_goals first | rfl | exact put_limit _ _
/-- What a step does to both. -/
structure WrOk (o : OpP) (S V S' V' : WSt) (res : Bool) : Prop where
  both : S = V → res = true ∧ S' = S.wr o ∧ V' = S.wr o
  err : S.err ≠ 0 → S' = S
  limit : S'.limit = S.limit
theorem writes_any {w : World} {a c b : Nat} {S V : WSt} {vl vm vh vt : Value} {B : List (List UInt8)} {F : List Nat} (h : (W3 a c b vl vm vh vt S V B).A w F) (hB : B.length ≤ 90000000) (o : OpP) {vb : Value} (hi : StepIn w F o vb) :
    Calls Tryd.prog 25 #[.pointer (some ⟨a, 0, none⟩), .pointer (some ⟨c, 0, none⟩), opV o vb, .pointer (some ⟨b, 0, none⟩)] w fun e w' => ∃ (res : Bool) (S' V' : WSt), WrOk o S V S' V' res ∧ e = .returned (.bool res) ∧ Post (W3 a c b vl vm vh vt S' V' (B ++ S.outs o)) w F w' := by
  by_cases h11 : o.kind = 11
  · have ho : S.outs o = [S.done.1, S.done.1] := by unfold WSt.outs; rw [if_pos h11]
    have hw : S.wr o = S := by
      unfold WSt.wr
      rw [if_neg (by omega), if_neg (by omega), if_neg (by omega), if_neg (by omega), if_neg (by omega), if_neg (by omega), if_neg (by omega), if_neg (by omega), if_neg (by omega), if_pos h11]
    rw [ho]
    refine (writes11 h hB o hi h11).mono fun e w' ⟨res, hr, he, hp⟩ => ⟨res, S, V, ⟨fun hs => ⟨hr hs, hw.symm, by rw [hw, hs]⟩, fun _ => rfl, rfl⟩, he, by rwa [List.append_assoc] at hp⟩
  have ho : S.outs o = [] := by unfold WSt.outs; rw [if_neg h11]
  rw [ho, List.append_nil]
  by_cases h5 : o.kind = 5
  · have hw : ∀ S : WSt, S.wr o = S.put o.b := fun S => by
      unfold WSt.wr
      rw [if_pos h5]
    exact (writes5 h o hi h5).mono fun e w' hh => ⟨true, _, _, ⟨fun hs => ⟨rfl, (hw S).symm, by rw [hw S, hs]⟩, fun h => WSt.put_err _ h, put_limit _ _⟩, hh.1, hh.2⟩
  by_cases h12 : o.kind = 12
  · have hw : ∀ S : WSt, S.wr o = S.put (List.replicate (pickN o.k 70000) (UInt8.ofNat (o.n % 256))) := fun S => by
      unfold WSt.wr
      rw [if_neg h5, if_pos h12]
    exact (writes12 h o hi h12).mono fun e w' hh => ⟨true, _, _, ⟨fun hs => ⟨rfl, (hw S).symm, by rw [hw S, hs]⟩, fun h => WSt.put_err _ h, put_limit _ _⟩, hh.1, hh.2⟩
  by_cases h6 : o.kind = 6
  · have hw : ∀ S : WSt, S.wr o = S.text o.s.data.toList := fun S => by
      unfold WSt.wr
      rw [if_neg h5, if_neg h12, if_pos h6]
    exact (writes6 h o hi h6).mono fun e w' hh => ⟨true, _, _, ⟨fun hs => ⟨rfl, (hw S).symm, by rw [hw S, hs]⟩, fun h => text_err _ h, text_limit _ _⟩, hh.1, hh.2⟩
  by_cases h13 : o.kind = 13
  · have hw : ∀ S : WSt, S.wr o = S.text (List.replicate (pickN o.k 70000) 120) := fun S => by
      unfold WSt.wr
      rw [if_neg h5, if_neg h12, if_neg h6, if_pos h13]
    exact (writes13 h o hi h13).mono fun e w' hh => ⟨true, _, _, ⟨fun hs => ⟨rfl, (hw S).symm, by rw [hw S, hs]⟩, fun h => text_err _ h, text_limit _ _⟩, hh.1, hh.2⟩
  by_cases h7 : o.kind = 7
  · have hw : ∀ S : WSt, S.wr o = S.opn.1 := fun S => by
      unfold WSt.wr
      rw [if_neg h5, if_neg h12, if_neg h6, if_neg h13, if_pos h7]
    exact (writes7 h o hi h7).mono fun e w' hh => ⟨_, _, _, ⟨fun hs => ⟨by rw [hs]; simp, (hw S).symm, by rw [hw S, hs]⟩, fun h => opn_err h, opn_limit _⟩, hh.1, hh.2⟩
  by_cases h14 : o.kind = 14
  · have hw : ∀ S : WSt, S.wr o = S.opnN (pickN o.k 40) := fun S => by
      unfold WSt.wr
      rw [if_neg h5, if_neg h12, if_neg h6, if_neg h13, if_neg h7, if_pos h14]
    exact (writes14 h o hi h14).mono fun e w' ⟨res, j, hr, he, hp⟩ => ⟨res, _, _, ⟨fun hs => ⟨(hr hs).1, by rw [hw S, (hr hs).2], by rw [hw S, (hr hs).2, hs]⟩, fun h => opnN_err h _, opnN_limit _ _⟩, he, hp⟩
  by_cases h8 : o.kind = 8
  · have hw : ∀ S : WSt, S.wr o = S.shut o.k := fun S => by
      unfold WSt.wr
      rw [if_neg h5, if_neg h12, if_neg h6, if_neg h13, if_neg h7, if_neg h14, if_pos h8]
    exact (writes8 h o hi h8).mono fun e w' hh => ⟨true, _, _, ⟨fun hs => ⟨rfl, (hw S).symm, by rw [hw S, hs]⟩, fun h => shut_errs _ h, shut_limit _ _⟩, hh.1, hh.2⟩
  by_cases h9 : o.kind = 9
  · have hw : ∀ S : WSt, S.wr o = S.shutAt S := fun S => by
      unfold WSt.wr
      rw [if_neg h5, if_neg h12, if_neg h6, if_neg h13, if_neg h7, if_neg h14, if_neg h8, if_pos h9]
    exact (writes9 h o hi h9).mono fun e w' hh => ⟨true, _, _, ⟨fun hs => ⟨rfl, by rw [hw S, hs], by rw [hw S, hs]⟩, fun h => shutAt_err _ h, shutAt_limit _ _⟩, hh.1, hh.2⟩
  by_cases h10 : o.kind = 10
  · have hw : ∀ S : WSt, S.wr o = S := fun S => by
      unfold WSt.wr
      rw [if_neg h5, if_neg h12, if_neg h6, if_neg h13, if_neg h7, if_neg h14, if_neg h8, if_neg h9, if_pos h10]
    exact (writes10 h o hi h10).mono fun e w' hh => ⟨_, _, _, ⟨fun hs => ⟨by rw [hs]; simp, (hw S).symm, by rw [hw S, hs]⟩, fun _ => rfl, rfl⟩, hh.1, hh.2⟩
  have hw : ∀ S : WSt, S.wr o = S.num o := fun S => by
    unfold WSt.wr
    rw [if_neg h5, if_neg h12, if_neg h6, if_neg h13, if_neg h7, if_neg h14, if_neg h8, if_neg h9, if_neg h10, if_neg h11]
  exact (writes0 h o hi (by omega)).mono fun e w' hh => ⟨true, _, _, ⟨fun hs => ⟨rfl, (hw S).symm, by rw [hw S, hs]⟩, fun h => num_err o h, num_limit _ _⟩, hh.1, hh.2⟩
end Go.Proofs.YtedddekkbgaolaaDoor

