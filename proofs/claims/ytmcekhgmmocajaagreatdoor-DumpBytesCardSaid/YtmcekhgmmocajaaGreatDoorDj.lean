/- dump.byPath: a map of texts to places in a row. | Do two entries say the same? The program's and the law's answer. | dump.diff, dump.Diff. | dump.Diff. -/
import Derived.Test.YtmcekhgmmocajaaGreatDoorOd
import Derived.Test.YtmcekhgmmocajaaGreatDoorSo2
import Derived.StillTailTactics
import Derived.Test.YtmcekhgmmocajaaGreatDoorSb
import Derived.Test.YtmcekhgmmocajaaGreatDoorRw2
namespace Go.Proofs.YtmcekhgmmocajaaGreatDoor
open Go.RowKit Me

/-- How a place of block g reads. -/
def ptrR (g : Nat) : Value → Option (DataW Unit × List MemPlace)
  | .pointer none => some (.lit (.int .i64 (-1)), [])
  | .pointer (some ⟨b, o, none⟩) => if b = g then some (.lit (.int .i64 (o : Int)), []) else none
  | _ => none
def ptrV (g : Nat) : Option Nat → Value
  | none => .pointer none
  | some o => .pointer (some ⟨g, o, none⟩)
def ptrI : Option Nat → Int
  | none => -1
  | some o => o
theorem ptrR_mk (g : Nat) (p : Option Nat) : ptrR g (ptrV g p) = some (.lit (.int .i64 (ptrI p)), []) := by
  cases p <;> simp [ptrR, ptrV, ptrI]
theorem ptrR_inv {g : Nat} {v : Value} {p : Option Nat} {ps : List MemPlace} (h : ptrR g v = some (.lit (.int .i64 (ptrI p)), ps)) : v = ptrV g p := by
  unfold ptrR at h
  split at h
  · cases p with
    | none => rfl
    | some o => simp [ptrI] at h
  · split at h
    · rename_i hb
      subst hb
      cases p with
      | none => simp [ptrI] at h
      | some o =>
        simp only [ptrI, Option.some.injEq, Prod.mk.injEq, DataW.lit.injEq, Lit.int.injEq, true_and] at h
        have := h.1
        simp only [ptrV, Value.pointer.injEq, Option.some.injEq, Addr.mk.injEq, true_and, and_true]
        omega
    · cases h
  · cases h
/-- Block b is a map that tells of each text its place in block g. -/
def Ptrs (w : World) (b n g : Nat) (pt : ByteArray → Option Nat) : Prop :=
  ∃ D : DataW Unit, w.ownsMap Tryz.prog 9 (ptrR g) b n D ∧ ∀ s : ByteArray, s.size ≤ maxLen → D.atKey (.string s.data.toList) (.lit (.int .i64 (-1))) = .lit (.int .i64 (ptrI (pt s)))
theorem Ptrs.start (w : World) (g : Nat) : Ptrs (w.alloc (.map #[] 0)) w.heap.size 0 g (fun _ => none) :=
  ⟨_, World.ownsMap_made _ _ _ _, fun _ _ => rfl⟩
theorem Ptrs.mods {w w' : World} {b n g : Nat} {pt : ByteArray → Option Nat} {F : List Nat} (h : Ptrs w b n g pt) (hm : Mods F w w') (hn : b ∉ F) : Ptrs w' b n g pt := by
  obtain ⟨D, ⟨es, clock, hb, F', h1, h2⟩, h3⟩ := h
  exact ⟨D, ⟨es, clock, hm.heap hb hn, F', h1, h2⟩, h3⟩
theorem zero111 (w : World) : (zeroValue 111).run Tryz.prog w = .ok (.pointer none) w := by kernel_rfl
theorem Ptrs.look {w : World} {b n g : Nat} {pt : ByteArray → Option Nat} (h : Ptrs w b n g pt) (s : ByteArray) (hs : s.size ≤ maxLen) :
    (Instr.lookup 109 (.map (some b)) (.string s) false).run Tryz.prog w = .ok (ptrV g (pt s)) w := by
  obtain ⟨D, h1, h2⟩ := h
  obtain ⟨v, ps, hrun, hat⟩ := h1.lookup law9 Tryz.underlying109 (zero111 w) (ptrR_mk g none) (key9 s hs)
  rw [show ptrI none = -1 from rfl, h2 s hs] at hat
  rw [hrun, ptrR_inv hat]
theorem Ptrs.update {w : World} {b n g : Nat} {pt : ByteArray → Option Nat} (h : Ptrs w b n g pt) (hn : n < maxLen) (s : ByteArray) (hs : s.size ≤ maxLen) (o : Nat) :
    ∃ w', (Instr.mapUpdate 109 (.map (some b)) (.string s) (.pointer (some ⟨g, o, none⟩))).run Tryz.prog w = .ok () w' ∧ Ptrs w' b (n + 1) g (fun t => if t = s then some o else pt t) ∧ Mods [b] w w' := by
  obtain ⟨D, h1, h2⟩ := h
  obtain ⟨w', hrun, h3, h4⟩ := h1.update law9 Tryz.underlying109 hn (key9 s hs) (ptrR_mk g (some o))
  refine ⟨w', hrun, ⟨_, h3, fun t ht => ?_⟩, (Mods.refl [b] w).grown h4 (fun x hx => Or.inl (by cases hx; simp))⟩
  show _ = DataW.lit (.int .i64 (ptrI (if t = s then some o else pt t)))
  by_cases e : t = s
  · rw [if_pos e, e]
    exact Go.Maps.atKey_put_same (k := .string s.data.toList) h1.isMap (show WideAt.IsKeyLit (.string s.data.toList) from trivial) _ _
  · rw [if_neg e, Go.Maps.atKey_put_other (by simpa using fun k => e (data_inj k))]
    exact h2 t ht
theorem wpList_ptr {w : World} {ops : Array Oper} {rest : List Oper} {o : Oper} {a : Act} {Q : Exit → Act → World → Prop} (hg : o.guard = none) (m x v : Operand) (hop : o.op = Op.mapUpdate 109 m x v)
    (b n g : Nat) (pt : ByteArray → Option Nat) (hm : a.eval m = .map (some b)) (h : Ptrs w b n g pt) (hn : n < maxLen) (s : ByteArray) (hs : s.size ≤ maxLen) (hx : a.eval x = .string s) (u : Nat) (hv : a.eval v = .pointer (some ⟨g, u, none⟩))
    (hK : ∀ w', Ptrs w' b (n + 1) g (fun t => if t = s then some u else pt t) → Mods [b] w w' → wpList Tryz.prog ops Q rest (a.put o.dst undef) w') : wpList Tryz.prog ops Q (o :: rest) a w := by
  refine wpList_plain hg fun K' hK' => ?_
  obtain ⟨w', hrun, r1, r2⟩ := h.update hn s hs u
  unfold Oper.wp
  simp [execOp, hop, hm, hx, hv, hrun, Result.andThen]
  exact hK' _ _ (hK w' r1 r2)
/-- The last entry of a path. -/
def lastGo (s : ByteArray) : List EntP → Nat → Option Nat → Option Nat
  | [], _, r => r
  | e :: l, i, r => lastGo s l (i + 1) (if s = e.path then some i else r)
def lastAt (L : List EntP) (s : ByteArray) : Option Nat := lastGo s L 0 none
theorem lastGo_snoc (s : ByteArray) (e : EntP) : ∀ (l : List EntP) (i : Nat) (r : Option Nat), lastGo s (l ++ [e]) i r = if s = e.path then some (i + l.length) else lastGo s l i r
  | [], i, r => rfl
  | x :: l, i, r => by
    show lastGo s (l ++ [e]) (i + 1) _ = _
    rw [lastGo_snoc s e l]
    show (if s = e.path then some (i + 1 + l.length) else lastGo s l (i + 1) _) = if s = e.path then some (i + (l.length + 1)) else lastGo s l (i + 1) _
    rw [show i + 1 + l.length = i + (l.length + 1) by omega]
theorem lastAt_snoc (l : List EntP) (e : EntP) (s : ByteArray) : lastAt (l ++ [e]) s = if s = e.path then some l.length else lastAt l s := by
  unfold lastAt
  rw [lastGo_snoc, Nat.zero_add]
theorem lastGo_cases (s : ByteArray) : ∀ (l : List EntP) (i : Nat) (r : Option Nat), (∃ k e, l[k]? = some e ∧ e.path = s ∧ lastGo s l i r = some (i + k)) ∨ ((∀ e ∈ l, e.path ≠ s) ∧ lastGo s l i r = r)
  | [], i, r => Or.inr ⟨by simp, rfl⟩
  | x :: l, i, r => by
    rcases lastGo_cases s l (i + 1) (if s = x.path then some i else r) with ⟨k, e, h1, h2, h3⟩ | ⟨h1, h2⟩
    · exact Or.inl ⟨k + 1, e, h1, h2, h3.trans (by congr 1; omega)⟩
    · by_cases hx : s = x.path
      · rw [if_pos hx] at h2
        exact Or.inl ⟨0, x, rfl, hx.symm, by show lastGo s l (i + 1) (if s = x.path then some i else r) = _; rw [if_pos hx]; exact h2⟩
      · rw [if_neg hx] at h2
        refine Or.inr ⟨fun e he => ?_, by show lastGo s l (i + 1) (if s = x.path then some i else r) = _; rw [if_neg hx]; exact h2⟩
        rcases List.mem_cons.1 he with rfl | he
        · exact fun e => hx e.symm
        · exact h1 e he
theorem lastAt_cases (L : List EntP) (s : ByteArray) : (∃ k e, L[k]? = some e ∧ e.path = s ∧ lastAt L s = some k) ∨ ((∀ e ∈ L, e.path ≠ s) ∧ lastAt L s = none) := by
  rcases lastGo_cases s L 0 none with ⟨k, e, h1, h2, h3⟩ | h
  · exact Or.inl ⟨k, e, h1, h2, by rw [Nat.zero_add] at h3; exact h3⟩
  · exact Or.inr h
/-- Block b is the map that byPath makes of these entries. -/
def PMap (w : World) (b : Nat) (A : Option Addr) (L : List EntP) : Prop :=
  ∃ g off, (L ≠ [] → A = some ⟨g, off, none⟩) ∧ ∃ n, Ptrs w b n g (fun s => (lastAt L s).map fun j => off + j * 5)
theorem PMap.mods {w w' : World} {b : Nat} {A : Option Addr} {L : List EntP} {F : List Nat} (h : PMap w b A L) (hm : Mods F w w') (hn : b ∉ F) : PMap w' b A L := by
  obtain ⟨g, off, h1, n, h2⟩ := h
  exact ⟨g, off, h1, n, h2.mods hm hn⟩
def RelBp (L : List EntP) (b g off : Nat) (w1 : World) (i : Value) (wr : World) : Prop :=
  ∃ k : Nat, k ≤ L.length ∧ i = .int .i64 k ∧ Mods [b] w1 wr ∧ Ptrs wr b k g (fun s => (lastAt (L.take k) s).map fun j => off + j * 5)
set_option maxRecDepth 100000 in
set_option maxHeartbeats 1500000 in
theorem bypath_any {w : World} (L : List EntP) {A : Option Addr} {c : Nat} (h : Ents w (.slice A L.length c) L) (hz : ∀ e ∈ L, e.path.size ≤ maxLen) :
    Calls Tryz.prog 79 #[.slice A L.length c] w fun x w' => x = .returned (.map (some w.heap.size)) ∧ PMap w' w.heap.size A L ∧ Mods [] w w' := by
  have H := Lib.hid h
  have HZ := Lib.hid hz
  have hLm : L.length < 9223372036854775807 + 1 := by obtain ⟨A', c', e, h1, h2, -⟩ := h; unfold maxLen at h2; cases e; omega
  obtain ⟨g, off, hA⟩ : ∃ g off, L ≠ [] → A = some ⟨g, off, none⟩ := by
    rcases L with _ | ⟨e, l⟩
    · exact ⟨0, 0, fun k => absurd rfl k⟩
    · obtain ⟨g, off, vd, e1, -⟩ := h.at (i := 0) rfl
      exact ⟨g, off, fun _ => e1⟩
  have hmm := @run_makeMap Tryz.prog
  clear hz h
  go_enter Tryz.func79, Tryz.ntmps79
  go_wp2_with fail
  have HC0 := Lib.hid (Ptrs.start w g)
  have HM0 := Lib.hid ((Mods.refl [] w).alloc (.map #[] 0))
  have hb0 : w.heap.size < (w.alloc (.map #[] 0)).heap.size := by simp
  generalize w.alloc (.map #[] 0) = w1 at *
  have HB := Lib.hid (show ∀ x ∈ [w.heap.size], x ∈ ([] : List Nat) ∨ w.heap.size ≤ x by simp)
  have H1 := Lib.hid (H.out.mods HM0.out)
  go_loopw [8] (fun i wr => RelBp L w.heap.size g off w1 i wr) (fun i _ => L.length - (intOf i).toNat)
  case atStart => exact ⟨0, by omega, rfl, Mods.refl _ _, HC0.out⟩
  case round =>
    obtain ⟨k, hk, rfl, hm, hc⟩ := hrel
    have HMW : Hid (Mods [] w wr) := Lib.hid (HM0.out.trans hm HB.out)
    rcases Nat.lt_or_ge k L.length with hlt | hge
    · obtain ⟨e, hs⟩ : ∃ e, L[k]? = some e := ⟨_, List.getElem?_eq_getElem hlt⟩
      obtain rfl := hA (by rintro rfl; simp at hlt)
      obtain ⟨g', off', vd, e', hrg, -⟩ := (H.out.mods HMW.out).at hs
      obtain ⟨rfl, rfl⟩ : g = g' ∧ off = off' := by cases e'; exact ⟨rfl, rfl⟩
      have c0 : wr.cell? ⟨g, off + k * 5, none⟩ = some (.string e.path) := (range_ent hrg).1
      have HC := Lib.hid (hc.mods ((Mods.refl [] wr).drew) (by simp))
      have HM := Lib.hid (hm.trans ((Mods.refl [] wr).drew) (by simp))
      have HTK : Hid (L.take (k + 1) = L.take k ++ [e]) := Lib.hid (by rw [List.take_add_one, hs]; rfl)
      have HLN : Hid ((L.take k).length = k) := Lib.hid (by rw [List.length_take]; omega)
      have hpz := HZ.out e (List.mem_of_getElem? hs)
      clear hs hrg e' hm hc
      go_wp2_with fail
      go_still_tail 9, (by kernel_rfl)
      change wpList _ _ _ _ _ wr.drew
      generalize wr.drew = w2 at *
      go_wp2_with (at_mapUpdate; go_must (refine wpList_ptr rfl _ _ _ rfl w.heap.size k g _ rfl HC.out (by unfold maxLen; omega) e.path hpz rfl (off + k * 5) rfl ?_); intro w3 hc3 hm3; have HC3 := Lib.hid hc3; have HM3 := Lib.hid (HM.out.trans hm3 (fun x hx => Or.inl hx)); clear hc3 hm3)
      refine ⟨⟨k + 1, by omega, rfl, HM3.out, ?_⟩, by simp only [intOf]; omega⟩
      have he : (fun s => (lastAt (L.take (k + 1)) s).map fun j => off + j * 5) = fun t => if t = e.path then some (off + k * 5) else (lastAt (L.take k) t).map fun j => off + j * 5 := by
        funext t
        rw [HTK.out, lastAt_snoc, HLN.out]
        split <;> rfl
      rw [he]
      exact HC3.out
    · obtain rfl : k = L.length := by omega
      rw [List.take_length] at hc
      have HC := Lib.hid hc
      clear hc hm
      go_wp2_with fail
      go_ret
      exact ⟨rfl, ⟨g, off, hA, _, HC.out⟩, HMW.out⟩
end Go.Proofs.YtmcekhgmmocajaaGreatDoor
namespace Go.Proofs.YtmcekhgmmocajaaGreatDoor
open Go.RowKit Me

def alikeE (e f : EntP) : Bool := decide (e.mode = f.mode) && (decide (e.mtime = f.mtime) && decide (e.gid = f.gid))
def sameE (e f : EntP) : Bool := decide (e.path = f.path) && (alikeE e f && decide (e.data = f.data))
theorem sameE_iff (e f : EntP) : sameE e f = true ↔ e = f := by
  cases e
  cases f
  simp [sameE, alikeE, and_assoc]
theorem sameE_self (e : EntP) : sameE e e = true := (sameE_iff e e).2 rfl
theorem sameE_symm (e f : EntP) : sameE e f = sameE f e := by
  rw [Bool.eq_iff_iff, sameE_iff, sameE_iff]
  exact eq_comm
theorem nat_eqB (a b : Nat) : (((a : Int)) == (b : Int)) = decide (a = b) := by
  by_cases h : a = b
  · subst h; simp
  · rw [decide_eq_false h]; simp; omega
theorem str_eqB (a b : ByteArray) : (a.toList == b.toList) = decide (a = b) := by
  by_cases h : a = b
  · subst h; simp
  · rw [decide_eq_false h, beq_eq_false_iff_ne]
    intro e
    rw [Lib.toList_data, Lib.toList_data] at e
    exact h (data_inj e)
theorem bytes_eqB (a b : List UInt8) : ((⟨a.toArray⟩ : ByteArray).toList == (⟨b.toArray⟩ : ByteArray).toList) = decide (a = b) := by
  rw [str_eqB]
  by_cases h : a = b
  · subst h; simp
  · rw [decide_eq_false h, decide_eq_false]
    intro e
    have := congrArg (fun x : ByteArray => x.data.toList) e
    exact h (by simpa using this)
set_option maxRecDepth 100000 in
theorem dalike_any (e f : EntP) (va vb : Value) (w : World) (ha : Rd w va (e.data.map byteV)) (hb : Rd w vb (f.data.map byteV)) :
    Calls Tryz.prog 107 #[entV e va, entV f vb] w fun x w' => x = .returned (.bool (alikeE e f)) ∧ Mods [] w w' := by
  obtain ⟨A, c, rfl, -⟩ := ha
  obtain ⟨B, d, rfl, -⟩ := hb
  simp only [List.length_map] at *
  unfold entV
  have hm := ((Mods.refl [] w).alloc (.cells #[.string e.path, .int .u32 (e.mode : Int), .int .u32 (e.mtime : Int), .string e.gid, .slice A e.data.length c] 47)).alloc (.cells #[.string f.path, .int .u32 (f.mode : Int), .int .u32 (f.mtime : Int), .string f.gid, .slice B f.data.length d] 47)
  have HM := Lib.hid hm
  have e1 := nat_eqB e.mode f.mode
  have e2 := nat_eqB e.mtime f.mtime
  have e3 := str_eqB e.gid f.gid
  clear hm
  go_enter Tryz.func107, Tryz.ntmps107
  unfold alikeE
  generalize decide (e.mode = f.mode) = q1 at *
  generalize decide (e.mtime = f.mtime) = q2 at *
  generalize decide (e.gid = f.gid) = q3 at *
  cases q1
  · go_wp2_with fail
    go_ret
    exact ⟨rfl, HM.out⟩
  · cases q2
    · go_wp2_with fail
      go_ret
      exact ⟨rfl, HM.out⟩
    · go_wp2_with fail
      go_ret
      exact ⟨by simp, HM.out⟩
set_option maxRecDepth 100000 in
theorem dsame_any (e f : EntP) (va vb : Value) (w : World) (ha : Rd w va (e.data.map byteV)) (hb : Rd w vb (f.data.map byteV)) :
    Calls Tryz.prog 80 #[entV e va, entV f vb] w fun x w' => x = .returned (.bool (sameE e f)) ∧ Mods [] w w' := by
  have HA := Lib.hid (fun w' (hw : Mods [] w w') => conv_rd (ha.mods hw (by simp)))
  have HB := Lib.hid (fun w' (hw : Mods [] w w') => conv_rd (hb.mods hw (by simp)))
  have HL := Lib.hid (fun w' (hw : Mods [] w w') => dalike_any e f va vb w' (ha.mods hw (by simp)) (hb.mods hw (by simp)))
  unfold entV at HL
  obtain ⟨A, c, rfl, -⟩ := ha
  obtain ⟨B, d, rfl, -⟩ := hb
  simp only [List.length_map] at *
  unfold entV
  have hm := ((Mods.refl [] w).alloc (.cells #[.string e.path, .int .u32 (e.mode : Int), .int .u32 (e.mtime : Int), .string e.gid, .slice A e.data.length c] 47)).alloc (.cells #[.string f.path, .int .u32 (f.mode : Int), .int .u32 (f.mtime : Int), .string f.gid, .slice B f.data.length d] 47)
  have HM := Lib.hid hm
  have e1 := str_eqB e.path f.path
  have e4 : (e.data == f.data) = decide (e.data = f.data) := by
    by_cases h : e.data = f.data
    · rw [decide_eq_true h, h]; simp
    · rw [decide_eq_false h]; simpa using h
  have x0 := (Go.heap_alloc_old (w.alloc (.cells #[.string e.path, .int .u32 (e.mode : Int), .int .u32 (e.mtime : Int), .string e.gid, .slice A e.data.length c] 47)) (.cells #[.string f.path, .int .u32 (f.mode : Int), .int .u32 (f.mtime : Int), .string f.gid, .slice B f.data.length d] 47) (r := w.heap.size) (by simp)).trans (heap_alloc_new w _)
  have x1 := heap_alloc_new (w.alloc (.cells #[.string e.path, .int .u32 (e.mode : Int), .int .u32 (e.mtime : Int), .string e.gid, .slice A e.data.length c] 47)) (.cells #[.string f.path, .int .u32 (f.mode : Int), .int .u32 (f.mtime : Int), .string f.gid, .slice B f.data.length d] 47)
  rw [World.size_alloc] at x1
  have HX0 := Lib.hid x0
  have HX1 := Lib.hid x1
  clear hm x0 x1
  go_enter Tryz.func80, Tryz.ntmps80
  unfold sameE
  generalize decide (e.path = f.path) = q1 at *
  generalize decide (e.data = f.data) = q3 at *
  cases q1
  · go_wp2_with fail
    go_ret
    exact ⟨rfl, HM.out⟩
  · generalize alikeE e f = q2 at *
    go_wp2_with fail
    refine (HL.out _ HM.out).mono ?_
    rintro x w1 ⟨rfl, hm1⟩
    have HM1 := Lib.hid (HM.out.trans hm1 (by simp))
    have k1 := HA.out _ HM1.out
    have k2 := HB.out _ HM1.out
    have d1 : w1.cell? ⟨w.heap.size, 4, none⟩ = some (.slice A e.data.length c) := by
      rw [cell_of_row _ _ _ _ _ _ (hm1.heap HX0.out (by simp))]
      rfl
    have d2 : w1.cell? ⟨w.heap.size + 1, 4, none⟩ = some (.slice B f.data.length d) := by
      rw [cell_of_row _ _ _ _ _ _ (hm1.heap HX1.out (by simp))]
      rfl
    clear hm1 HL HA HB HM
    cases q2
    · go_wp2_with fail
      go_ret
      exact ⟨by simp, HM1.out⟩
    · go_wp2_with fail
      go_ret
      exact ⟨by simp, HM1.out⟩
end Go.Proofs.YtmcekhgmmocajaaGreatDoor
namespace Go.Proofs.YtmcekhgmmocajaaGreatDoor
open Go.RowKit Me Go.BigFrame

/-- A change's cells. -/
def encX (x : ByteArray × Bool × Bool) : List Value := [.string x.1, .bool x.2.1, .bool x.2.2]
/-- Entries in order. -/
abbrev SrtE (L : List EntP) : Prop := Dg.Srt cmpP EntP.path L
theorem find_last {M : List EntP} (h : SrtE M) (s : ByteArray) : (∃ k f, lastAt M s = some k ∧ M[k]? = some f ∧ f.path = s ∧ (M.find? fun b => decide (b.path = s)) = some f) ∨ (lastAt M s = none ∧ (M.find? fun b => decide (b.path = s)) = none) := by
  rcases lastAt_cases M s with ⟨k, e, h1, h2, h3⟩ | ⟨h1, h2⟩
  · left
    cases hf : M.find? fun b => decide (b.path = s) with
    | none => exact absurd h2 (by have := List.find?_eq_none.1 hf e (List.mem_of_getElem? h1); simpa using this)
    | some f =>
      have k1 := List.mem_of_find?_eq_some hf
      have k2 := List.find?_some hf
      simp only [decide_eq_true_eq] at k2
      obtain rfl := h.uniq cmpP_ord k1 (List.mem_of_getElem? h1) (k2.trans h2.symm)
      exact ⟨k, f, h3, h1, k2, rfl⟩
  · right
    exact ⟨h2, List.find?_eq_none.2 fun e he => by simpa using h1 e he⟩
abbrev chg1E (M : List EntP) := Dg.chg1 EntP.path sameE M
abbrev chg2E (L : List EntP) := Dg.chg2 EntP.path L
theorem info54z : (Tryz.prog.info? 54).map (fun i => (i.zero, i.size, i.bytes)) = some (some (.agg #[.string ⟨#[]⟩, .bool false, .bool false]), 3, 24) := by kernel_rfl
theorem src_chg (w : World) (x : ByteArray × Bool × Bool) : Src Tryz.prog 3 49 (.slice (some ⟨w.heap.size, 0, none⟩) 1 1) 1 (encX x) (w.alloc (.cells (encX x).toArray 54)) :=
  Src.ofSlice _ Tryz.underlying49 _ _ _ _ rfl (cells_new w (encX x) 54) (by
    intro u hu
    simp only [encX, List.mem_cons, List.not_mem_nil, or_false] at hu
    rcases hu with rfl | rfl | rfl <;> rfl)
/-- The changes told so far. -/
def Chs (w : World) (B : Nat) (v : Value) (X : List (ByteArray × Bool × Bool)) : Prop := w.ownsRow B 54 3 v X.length (X.flatMap encX)
theorem Chs.mods {w w' : World} {B : Nat} {v : Value} {X : List (ByteArray × Bool × Bool)} (h : Chs w B v X) (hm : Mods [] w w') : Chs w' B v X := ownsRow_mods h hm (by simp)
theorem Chs.snoc {w : World} {B : Nat} {v : Value} {X : List (ByteArray × Bool × Bool)} {x : ByteArray × Bool × Bool} (h : w.ownsRow B 54 3 v (X.length + 1) (X.flatMap encX ++ encX x)) : Chs w B v (X ++ [x]) := by
  unfold Chs
  rw [List.length_append, List.flatMap_append]
  simpa using h
theorem chs_len (M : List EntP) (L : List EntP) (k : Nat) : ((L.take k).filterMap (chg1E M)).length ≤ L.length := Nat.le_trans (List.length_filterMap_le _ _) (by rw [List.length_take]; omega)
def RelD1 (w : World) (L M : List EntP) (v i : Value) (wr : World) : Prop := ∃ k : Nat, k ≤ L.length ∧ i = .int .i64 k ∧ Chs wr w.heap.size v ((L.take k).filterMap (chg1E M)) ∧ Mods [] w wr
def RelD2 (w : World) (L M : List EntP) (v i : Value) (wr : World) : Prop := ∃ k : Nat, k ≤ M.length ∧ i = .int .i64 k ∧ Chs wr w.heap.size v (L.filterMap (chg1E M) ++ (M.take k).filterMap (chg2E L)) ∧ Mods [] w wr
/-- A path that is not too long. -/
def mkP (p : ByteArray) : PathT := if h : p.size < 4294967281 then ⟨p, h⟩ else default
def liftC (x : ByteArray × Bool × Bool) : Chg := (mkP x.1, x.2.1, x.2.2)
def plainC (x : Chg) : ByteArray × Bool × Bool := (x.1.1, x.2.1, x.2.2)
theorem plain_lift {x : ByteArray × Bool × Bool} (h : x.1.size < 4294967281) : plainC (liftC x) = x := by
  simp [plainC, liftC, mkP, h]
theorem lift_flat : ∀ {X : List (ByteArray × Bool × Bool)}, (∀ x ∈ X, x.1.size < 4294967281) → (X.map liftC).flatMap encC = X.flatMap encX
  | [], _ => rfl
  | x :: X, h => by
    rw [List.map_cons, List.flatMap_cons, List.flatMap_cons, lift_flat fun y hy => h y (by simp [hy])]
    congr 1
    show encX (plainC (liftC x)) = encX x
    rw [plain_lift (h x (by simp))]
theorem lift_plain : ∀ {X : List (ByteArray × Bool × Bool)}, (∀ x ∈ X, x.1.size < 4294967281) → (X.map liftC).map plainC = X
  | [], _ => rfl
  | x :: X, h => by
    rw [List.map_cons, List.map_cons, lift_plain fun y hy => h y (by simp [hy]), plain_lift (h x (by simp))]
/-- What is sorted of the changes is what the merging tells. -/
theorem sorted_mrg {L M : List EntP} (sL : SrtE L) (sM : SrtE M) (hz : ∀ x ∈ Dg.chg EntP.path sameE L M, x.1.size < 4294967281) {L' : List Chg} (hp : List.Perm L' ((Dg.chg EntP.path sameE L M).map liftC)) (hs : L'.Pairwise fun a b => ¬ cmpP b.1.1 a.1.1 < 0) :
    L'.map plainC = Dg.mrg cmpP EntP.path sameE L M := by
  refine Dg.sorted_chg cmpP_ord sL sM ?_ ?_
  · have := hp.map plainC
    rwa [lift_plain hz] at this
  · rw [List.pairwise_map]
    exact hs
theorem plain_flat (X : List Chg) : (X.map plainC).flatMap encX = X.flatMap encC := by
  induction X with
  | nil => rfl
  | cons x X ih => rw [List.map_cons, List.flatMap_cons, List.flatMap_cons, ih]; rfl
set_option maxRecDepth 100000 in
set_option maxHeartbeats 2000000 in
theorem diff_any {w : World} (L M : List EntP) {A B : Option Addr} {c d : Nat} (hL : Ents w (.slice A L.length c) L) (hM : Ents w (.slice B M.length d) M) (sL : SrtE L) (sM : SrtE M) (zL : ∀ e ∈ L, Small e) (zM : ∀ e ∈ M, Small e)
    (lL : L.length ≤ 100000000) (lM : M.length ≤ 100000000) (hT : Tabs w) :
    Calls Tryz.prog 41 #[.slice A L.length c, .slice B M.length d] w fun x w' => ∃ v, x = .returned v ∧ Chs w' w.heap.size v (Dg.mrg cmpP EntP.path sameE L M) ∧ Mods [] w w' := by
  have HL := Lib.hid hL
  have HM := Lib.hid hM
  have SL := Lib.hid sL
  have SM := Lib.hid sM
  have ZL := Lib.hid (fun e (he : e ∈ L) => show e.path.size ≤ maxLen by have := (zL e he).path; unfold maxLen; omega)
  have ZM := Lib.hid (fun e (he : e ∈ M) => show e.path.size ≤ maxLen by have := (zM e he).path; unfold maxLen; omega)
  have ZSL := Lib.hid (fun e (he : e ∈ L) => (zL e he).path)
  have ZSM := Lib.hid (fun e (he : e ∈ M) => (zM e he).path)
  obtain ⟨i0, hi, hz0, hz1, hz2⟩ := info_parts info54z
  clear hL hM sL sM zL zM
  go_enter Tryz.func41, Tryz.ntmps41
  go_wp2_with fail
  refine (bypath_any L HL.out ZL.out).mono ?_
  rintro x w1 ⟨rfl, hp, hm⟩
  have HP1 := Lib.hid hp
  have HM1 := Lib.hid hm
  clear hp hm
  go_wp2_with fail
  refine (bypath_any M (HM.out.mods HM1.out) ZM.out).mono ?_
  rintro x w2 ⟨rfl, hp, hm⟩
  have HP2 := Lib.hid hp
  have HP1b := Lib.hid (HP1.out.mods hm (by simp))
  have HM2 := Lib.hid (HM1.out.trans hm (by simp))
  have HLb := Lib.hid (HL.out.mods HM2.out)
  have HMb := Lib.hid (HM.out.mods HM2.out)
  clear hp hm HP1 HM1 HL HM
  go_wp2_with fail
  go_loopw [7, 19] (fun v i wr => RelD1 w2 L M v i wr) (fun _ i _ => L.length - (intOf i).toNat)
  case atStart => exact ⟨0, by omega, rfl, World.ownsRow_nil _ _ _ _, Mods.refl _ _⟩
  case round =>
    obtain ⟨k, hk, rfl, ho, hm⟩ := hrel
    have HO := Lib.hid ho
    have HMr := Lib.hid hm
    clear ho hm
    rcases Nat.lt_or_ge k L.length with hlt | hge
    · obtain ⟨e, hs⟩ : ∃ e, L[k]? = some e := ⟨_, List.getElem?_eq_getElem hlt⟩
      obtain ⟨g, off, vd, rfl, hrg, hrd⟩ := (HLb.out.mods HMr.out).at hs
      obtain ⟨vA, vc, rfl, -⟩ := id hrd
      have HRD := Lib.hid hrd
      have HRG := Lib.hid hrg
      have hpz := ZL.out e (List.mem_of_getElem? hs)
      have HTK : Hid ((L.take (k + 1)).filterMap (chg1E M) = (L.take k).filterMap (chg1E M) ++ (chg1E M e).toList) := Lib.hid (by
        rw [List.take_add_one, hs, List.filterMap_append]
        cases h : chg1E M e <;> simp [h])
      clear hrd hrg hs
      rw [List.length_map] at *
      simp only [entC] at HRG
      have HX := Lib.hid (heap_alloc_new wr (.cells #[.string e.path, .int .u32 (e.mode : Int), .int .u32 (e.mtime : Int), .string e.gid, .slice vA e.data.length vc] 47))
      have hm1 := (Mods.refl [] wr).alloc (.cells #[.string e.path, .int .u32 (e.mode : Int), .int .u32 (e.mtime : Int), .string e.gid, .slice vA e.data.length vc] 47)
      obtain ⟨g2, off2, hB, n2, hpt⟩ := HP2.out.mods (HMr.out.trans hm1 (by simp)) (by simp)
      have hlook := hpt.look e.path hpz
      have HO1 := Lib.hid (HO.out.mods hm1)
      have HMx := Lib.hid hm1
      clear hpt hm1
      rcases find_last SM.out e.path with ⟨j, f, h1, h2, h3, h4⟩ | ⟨h1, h2⟩
      · obtain ⟨g3, off3, fd, hB3, hrf, hrdf⟩ := (HMb.out.mods HMr.out).at h2
        obtain ⟨rfl, rfl⟩ : g2 = g3 ∧ off2 = off3 := by
          have := hB (by rintro rfl; simp at h2)
          rw [hB3] at this
          cases this
          exact ⟨rfl, rfl⟩
        subst hB3
        rw [h1] at hlook
        simp only [Option.map_some, ptrV] at hlook
        have HC : Hid (chg1E M e = if sameE e f then none else some (e.path, true, true)) := Lib.hid (by simp only [Dg.chg1, h4])
        have HSAME := Lib.hid (fun w' (hw : InC (wr.alloc (.cells #[.string e.path, .int .u32 (e.mode : Int), .int .u32 (e.mtime : Int), .string e.gid, .slice vA e.data.length vc] 47)) w') => dsame_any e f _ fd w' (HRD.out.mods (HMx.out.trans hw (by simp)) (by simp)) (hrdf.mods (HMx.out.trans hw (by simp)) (by simp)))
        have HRF := Lib.hid (fun w' (hw : InC (wr.alloc (.cells #[.string e.path, .int .u32 (e.mode : Int), .int .u32 (e.mtime : Int), .string e.gid, .slice vA e.data.length vc] 47)) w') => range_mods hrf (HMx.out.trans hw (by simp)) (by simp))
        rw [entV_agg, entV_agg] at HSAME
        clear h1 h2 h3 h4 hB hrf hrdf
        go_wp2_with (first | (refine wpList_load_mid rfl 47 _ rfl g (off + k * 5) rfl [.string e.path, .int .u32 (e.mode : Int), .int .u32 (e.mtime : Int), .string e.gid, .slice vA e.data.length vc] _ HRG.out Tryz.underlying47 rfl info38t ?_))
        generalize (wr.alloc (.cells #[.string e.path, .int .u32 (e.mode : Int), .int .u32 (e.mtime : Int), .string e.gid, .slice vA e.data.length vc] 47)) = w3 at *
        generalize hbx : wr.heap.size = bx at *
        have HRX := Lib.hid (fun w' (hw : InC w3 w') => show w'.rangeAt bx 0 (entC e (.slice vA e.data.length vc)) from by
          intro q u hq
          rw [cell_of_row _ _ _ _ _ _ (Mods.heap hw HX.out (by simp)), Nat.zero_add]
          simpa [entC] using hq)
        refine wp_region_quiet (C := InC w3) (by kernel_rfl) (by kernel_rfl) (InC.drew w3) ?_
        dsimp only [List.toList_toArray]
        iterate 3 (first | go_big_quiet_skip | (go_big_quiet_want; go_big_quiet_op; first | go_big_quiet_on | (apply Exists.intro; refine ⟨fun w' hw' => ?_, ?_⟩; (first | rfl | exact ⟨rfl, rfl⟩); go_big_quiet_on)))
        refine wpQuiet_step (fun K hK => ?_)
        go_simp
        refine ⟨.agg (entC e (.slice vA e.data.length vc)).toArray, fun w' hw' => ?_, hK _ ?_⟩
        · obtain ⟨r0, r1, r2, r3, r4⟩ := range_ent (HRX.out w' hw')
          simp only [Nat.zero_add] at r1 r2 r3 r4
          simp only [r0, r1, r2, r3, r4, Result.andThen]
          exact ⟨trivial, rfl⟩
        clear hK K
        iterate 2
          refine wpQuiet_step (fun K hK => ?_)
          go_simp
          refine ⟨_, fun _ _ => rfl, hK _ ?_⟩
          clear hK K
        refine wpQuiet_step (fun K hK => ?_)
        go_simp
        refine ⟨.agg (entC f fd).toArray, fun w' hw' => ?_, hK _ ?_⟩
        · obtain ⟨r0, r1, r2, r3, r4⟩ := range_ent (HRF.out w' hw')
          simp only [r0, r1, r2, r3, r4, Result.andThen]
          exact ⟨trivial, rfl⟩
        clear hK K
        refine wpQuiet_step (fun K hK => ?_)
        go_simp
        refine ⟨.bool (sameE e f), fun w' hw' => (HSAME.out w' hw').mono fun _ _ hh => ⟨hh.1, Mods.trans hw' hh.2 (by simp)⟩, hK _ ?_⟩
        clear hK K
        cases hq : sameE e f
        · rw [hq, if_neg (by decide)] at HC
          rw [HC.out] at HTK
          iterate 2
            refine wpQuiet_step (fun K hK => ?_)
            go_simp
            refine ⟨_, fun _ _ => rfl, hK _ ?_⟩
            clear hK K
          refine wpQuiet_nil ?_
          intro w5 hw5
          have c0 : w5.cell? ⟨bx, 0, none⟩ = some (.string e.path) := by
            rw [cell_of_row _ _ _ _ _ _ (Mods.heap hw5 HX.out (by simp))]
            rfl
          clear HSAME HRF HRX HC hq
          have hxl := chs_len M L k
          generalize (L.take k).filterMap (chg1E M) = X at *
          have HROW : Hid (w5.ownsRow w2.heap.size 54 3 _ X.length (X.flatMap encX)) := Lib.hid (HO1.out.mods hw5)
          have HM5 := Lib.hid (HMr.out.trans (HMx.out.trans hw5 (by simp)) (by simp))
          have hs5 := HM5.out.size
          obtain ⟨A7, c7, rfl⟩ := own_ctor HROW.out
          clear hw5 HO1 HO HX HMx
          go_wp2_with (at_builtin; go_must (refine wpList_app _ rfl _ _ 49 49 rfl w2.heap.size 54 i0 (.agg #[.string ⟨#[]⟩, .bool false, .bool false]) 3 24 Tryz.underlying49 hi hz0 hz1 hz2 rfl _ _ _ rfl (HROW.out.alloc _) _ 1 (encX (e.path, true, true)) rfl ?c1 ?c2 ?c3 ?c4 ?_))
          case c1 => exact src_chg w5 (e.path, true, true)
          case c2 => unfold maxLen; omega
          case c3 => omega
          case c4 => simp; omega
          intro v' w6 hown hgrow hat
          have hm6 : Mods (Value.slice A7 X.length c7).ownBlock.toList w5 w6 := ((Mods.refl _ w5).alloc _).grown hgrow (fun x hx => Or.inl (by rw [hx]; simp))
          have HM6 := Lib.hid (HM5.out.trans hm6 (fun x hx => Or.inr (HROW.out.lt x (by simpa using hx)).1))
          have HO6 := Lib.hid (Chs.snoc hown)
          obtain ⟨A8, c8, rfl⟩ := own_ctor hown
          clear hown hgrow hat hm6 HROW HM5
          go_wp2_with fail
          refine ⟨⟨k + 1, by omega, rfl, ?_, HM6.out⟩, by simp only [intOf]; omega⟩
          rw [HTK.out]
          exact HO6.out
        · rw [hq, if_pos rfl] at HC
          rw [HC.out] at HTK
          iterate 2
            refine wpQuiet_step (fun K hK => ?_)
            go_simp
            refine ⟨_, fun _ _ => rfl, hK _ ?_⟩
            clear hK K
          refine wpQuiet_nil ?_
          intro w5 hw5
          have HO5 := Lib.hid (HO1.out.mods hw5)
          have HM5 := Lib.hid (HMr.out.trans (HMx.out.trans hw5 (by simp)) (by simp))
          obtain ⟨A7, c7, rfl⟩ := own_ctor HO5.out
          clear HSAME HRF HRX HC hq hw5 HO1 HX HMx HO
          go_wp2_with fail
          refine ⟨⟨k + 1, by omega, rfl, ?_, HM5.out⟩, by simp only [intOf]; omega⟩
          rw [HTK.out]
          simpa using HO5.out
      · rw [h1] at hlook
        simp only [Option.map_none, ptrV] at hlook
        have hc : chg1E M e = some (e.path, true, false) := by
          simp only [Dg.chg1, h2]
        rw [hc] at HTK
        clear h1 h2 hc
        go_wp2_with (first | (refine wpList_load_mid rfl 47 _ rfl g (off + k * 5) rfl [.string e.path, .int .u32 (e.mode : Int), .int .u32 (e.mtime : Int), .string e.gid, .slice vA e.data.length vc] _ HRG.out Tryz.underlying47 rfl info38t ?_))
        generalize (wr.alloc (.cells #[.string e.path, .int .u32 (e.mode : Int), .int .u32 (e.mtime : Int), .string e.gid, .slice vA e.data.length vc] 47)) = w3 at *
        generalize hbx : wr.heap.size = bx at *
        refine wp_region_quiet (C := InC w3) (by kernel_rfl) (by kernel_rfl) (InC.drew w3) ?_
        dsimp only [List.toList_toArray]
        repeat (first | go_big_quiet_skip | (go_big_quiet_want; go_big_quiet_op; first | go_big_quiet_on | (apply Exists.intro; refine ⟨fun w' hw' => ?_, ?_⟩; (first | rfl | exact ⟨rfl, rfl⟩); go_big_quiet_on)))
        refine wpQuiet_nil ?_
        intro w5 hw5
        have c0 : w5.cell? ⟨bx, 0, none⟩ = some (.string e.path) := by
          rw [cell_of_row _ _ _ _ _ _ (Mods.heap hw5 HX.out (by simp))]
          rfl
        have hxl := chs_len M L k
        generalize (L.take k).filterMap (chg1E M) = X at *
        have HROW : Hid (w5.ownsRow w2.heap.size 54 3 _ X.length (X.flatMap encX)) := Lib.hid (HO1.out.mods hw5)
        have HM5 := Lib.hid (HMr.out.trans (HMx.out.trans hw5 (by simp)) (by simp))
        have hs5 := HM5.out.size
        obtain ⟨A7, c7, rfl⟩ := own_ctor HROW.out
        clear hw5 HO1 HO HX HMx
        go_wp2_with (at_builtin; go_must (refine wpList_app _ rfl _ _ 49 49 rfl w2.heap.size 54 i0 (.agg #[.string ⟨#[]⟩, .bool false, .bool false]) 3 24 Tryz.underlying49 hi hz0 hz1 hz2 rfl _ _ _ rfl (HROW.out.alloc _) _ 1 (encX (e.path, true, false)) rfl ?c1 ?c2 ?c3 ?c4 ?_))
        case c1 => exact src_chg w5 (e.path, true, false)
        case c2 => unfold maxLen; omega
        case c3 => omega
        case c4 => simp; omega
        intro v' w6 hown hgrow hat
        have hm6 : Mods (Value.slice A7 X.length c7).ownBlock.toList w5 w6 := ((Mods.refl _ w5).alloc _).grown hgrow (fun x hx => Or.inl (by rw [hx]; simp))
        have HM6 := Lib.hid (HM5.out.trans hm6 (fun x hx => Or.inr (HROW.out.lt x (by simpa using hx)).1))
        have HO6 := Lib.hid (Chs.snoc hown)
        obtain ⟨A8, c8, rfl⟩ := own_ctor hown
        clear hown hgrow hat hm6 HROW HM5
        go_wp2_with fail
        refine ⟨⟨k + 1, by omega, rfl, ?_, HM6.out⟩, by simp only [intOf]; omega⟩
        rw [HTK.out]
        exact HO6.out
    · obtain rfl : k = L.length := by omega
      rw [List.take_length] at HO
      have HKEY : Hid (∀ x ∈ Dg.chg EntP.path sameE L M, x.1.size < 4294967281) := Lib.hid fun x hx => by
        rcases ((Dg.mem_chg cmpP_ord SM.out x).1 hx).key with ⟨e, he, h⟩ | ⟨e, he, h⟩
        · rw [h]; have := ZSL.out e he; omega
        · rw [h]; have := ZSM.out e he; omega
      have hxl1 := chs_len M L L.length
      rw [List.take_length] at hxl1
      clear hk hge
      go_wp2_with fail
      go_loopw [7, 48] (fun v i wr => RelD2 w2 L M v i wr) (fun _ i _ => M.length - (intOf i).toNat)
      case atStart => exact ⟨0, by omega, rfl, by simpa using HO.out, HMr.out⟩
      case round =>
        clear HO HMr
        obtain ⟨k, hk, rfl, ho, hm⟩ := hrel
        have HO := Lib.hid ho
        have HMr := Lib.hid hm
        clear ho hm
        rcases Nat.lt_or_ge k M.length with hlt | hge
        · obtain ⟨e, hs⟩ : ∃ e, M[k]? = some e := ⟨_, List.getElem?_eq_getElem hlt⟩
          obtain ⟨g, off, vd, rfl, hrg, hrd⟩ := (HMb.out.mods HMr.out).at hs
          obtain ⟨vA, vc, rfl, -⟩ := id hrd
          have HRG := Lib.hid hrg
          have hpz := ZM.out e (List.mem_of_getElem? hs)
          have HTK : Hid ((M.take (k + 1)).filterMap (chg2E L) = (M.take k).filterMap (chg2E L) ++ (chg2E L e).toList) := Lib.hid (by
            rw [List.take_add_one, hs, List.filterMap_append]
            cases h : chg2E L e <;> simp [h])
          clear hrd hrg hs
          rw [List.length_map] at *
          simp only [entC] at HRG
          have HX := Lib.hid (heap_alloc_new wr (.cells #[.string e.path, .int .u32 (e.mode : Int), .int .u32 (e.mtime : Int), .string e.gid, .slice vA e.data.length vc] 47))
          have hm1 := (Mods.refl [] wr).alloc (.cells #[.string e.path, .int .u32 (e.mode : Int), .int .u32 (e.mtime : Int), .string e.gid, .slice vA e.data.length vc] 47)
          obtain ⟨g2, off2, hB, n2, hpt⟩ := HP1b.out.mods (HMr.out.trans hm1 (by simp)) (by simp)
          have hlook := hpt.look e.path hpz
          have HO1 := Lib.hid (HO.out.mods hm1)
          have HMx := Lib.hid hm1
          have c0 : (wr.alloc (.cells #[.string e.path, .int .u32 (e.mode : Int), .int .u32 (e.mtime : Int), .string e.gid, .slice vA e.data.length vc] 47)).cell? ⟨wr.heap.size, 0, none⟩ = some (.string e.path) := by rw [cell_of_row _ _ _ _ _ _ HX.out]; rfl
          clear hpt hm1 hB
          rcases find_last SL.out e.path with ⟨j, f, h1, h2, h3, h4⟩ | ⟨h1, h2⟩
          · rw [h1] at hlook
            simp only [Option.map_some, ptrV] at hlook
            have hc : chg2E L e = none := by simp only [Dg.chg2, h4]
            rw [hc] at HTK
            obtain ⟨A7, c7, rfl⟩ := own_ctor HO.out
            clear h1 h2 h3 h4 hc
            go_wp2_with (first | (refine wpList_load_mid rfl 47 _ rfl g (off + k * 5) rfl [.string e.path, .int .u32 (e.mode : Int), .int .u32 (e.mtime : Int), .string e.gid, .slice vA e.data.length vc] _ HRG.out Tryz.underlying47 rfl info38t ?_))
            refine ⟨⟨k + 1, by omega, rfl, ?_, HMr.out.trans HMx.out (by simp)⟩, by simp only [intOf]; omega⟩
            rw [HTK.out]
            simpa using HO1.out
          · rw [h1] at hlook
            simp only [Option.map_none, ptrV] at hlook
            have hc : chg2E L e = some (e.path, false, true) := by simp only [Dg.chg2, h2]
            rw [hc] at HTK
            have hxl2 : ((M.take k).filterMap (chg2E L)).length ≤ M.length := Nat.le_trans (List.length_filterMap_le _ _) (by rw [List.length_take]; omega)
            have hxl : (L.filterMap (chg1E M) ++ (M.take k).filterMap (chg2E L)).length ≤ 200000000 := by rw [List.length_append]; omega
            have HTK2 : Hid (L.filterMap (chg1E M) ++ (M.take (k + 1)).filterMap (chg2E L) = (L.filterMap (chg1E M) ++ (M.take k).filterMap (chg2E L)) ++ [(e.path, false, true)]) := Lib.hid (by
              rw [HTK.out, ← List.append_assoc]
              rfl)
            clear h1 h2 hc HTK hxl2
            generalize L.filterMap (chg1E M) ++ (M.take k).filterMap (chg2E L) = X at *
            have HROW : Hid ((wr.alloc (.cells #[.string e.path, .int .u32 (e.mode : Int), .int .u32 (e.mtime : Int), .string e.gid, .slice vA e.data.length vc] 47)).ownsRow w2.heap.size 54 3 _ X.length (X.flatMap encX)) := Lib.hid HO1.out
            have HM5 := Lib.hid (HMr.out.trans HMx.out (by simp))
            have hs5 := HM5.out.size
            obtain ⟨A7, c7, rfl⟩ := own_ctor HROW.out
            clear HO1 HO HX HMx
            go_wp2_with (first
              | (refine wpList_load_mid rfl 47 _ rfl g (off + k * 5) rfl [.string e.path, .int .u32 (e.mode : Int), .int .u32 (e.mtime : Int), .string e.gid, .slice vA e.data.length vc] _ HRG.out Tryz.underlying47 rfl info38t ?_)
              | (at_builtin; go_must (refine wpList_app _ rfl _ _ 49 49 rfl w2.heap.size 54 i0 (.agg #[.string ⟨#[]⟩, .bool false, .bool false]) 3 24 Tryz.underlying49 hi hz0 hz1 hz2 rfl _ _ _ rfl (HROW.out.alloc _) _ 1 (encX (e.path, false, true)) rfl ?c1 ?c2 ?c3 ?c4 ?_)))
            case c1 =>
              have := src_chg (wr.alloc (.cells #[.string e.path, .int .u32 (e.mode : Int), .int .u32 (e.mtime : Int), .string e.gid, .slice vA e.data.length vc] 47)) (e.path, false, true)
              rw [World.size_alloc] at this
              exact this
            case c2 => unfold maxLen; omega
            case c3 => omega
            case c4 => simp at hs5 ⊢; omega
            intro v' w6 hown hgrow hat
            have hm6 : Mods (Value.slice A7 X.length c7).ownBlock.toList _ w6 := ((Mods.refl _ _).alloc _).grown hgrow (fun x hx => Or.inl (by rw [hx]; simp))
            have HM6 := Lib.hid (HM5.out.trans hm6 (fun x hx => Or.inr (HROW.out.lt x (by simpa using hx)).1))
            have HO6 := Lib.hid (Chs.snoc hown)
            obtain ⟨A8, c8, rfl⟩ := own_ctor hown
            clear hown hgrow hat hm6 HROW HM5
            go_wp2_with fail
            refine ⟨⟨k + 1, by omega, rfl, ?_, HM6.out⟩, by simp only [intOf]; omega⟩
            rw [HTK2.out]
            exact HO6.out
        · obtain rfl : k = M.length := by omega
          rw [List.take_length] at HO
          have HO1 : Hid (Chs wr w2.heap.size _ (Dg.chg EntP.path sameE L M)) := Lib.hid HO.out
          have HTr := Lib.hid (hT.mods (HM2.out.trans HMr.out (by simp)))
          have hrow := HO1.out
          unfold Chs at hrow
          rw [← lift_flat HKEY.out, show (Dg.chg EntP.path sameE L M).length = ((Dg.chg EntP.path sameE L M).map liftC).length by rw [List.length_map]] at hrow
          have hsort := sort_any _ hrow HTr.out (hT.mods HM2.out).three (by
            have hxl2 : (M.filterMap (Dg.chg2 EntP.path L)).length ≤ M.length := List.length_filterMap_le _ _
            rw [List.length_map]
            unfold Dg.chg
            rw [List.length_append]
            have : (L.filterMap (Dg.chg1 EntP.path sameE M)).length ≤ L.length := hxl1
            omega)
          have hown := hrow
          obtain ⟨A7, c7, rfl⟩ := own_ctor hrow
          rw [List.length_map] at hsort
          have HSORT := Lib.hid hsort
          have HB : Hid (∀ x ∈ (Value.slice A7 (Dg.chg EntP.path sameE L M).length c7).ownBlock.toList, w2.heap.size ≤ x) := Lib.hid fun x hx => by
            have := (hown.lt x (by rw [List.length_map]; simpa using hx)).1
            exact this
          clear hrow hown HO HO1 hk hge hsort
          go_wp2_with fail
          refine HSORT.out.mono ?_
          rintro x w8 ⟨rfl, L', hp, hs, ho, hm⟩
          have HX8 : Hid (Chs w8 w.heap.size (Value.slice A7 (Dg.chg EntP.path sameE L M).length c7) (Dg.mrg cmpP EntP.path sameE L M)) := Lib.hid (by
            rw [← sorted_mrg SL.out SM.out HKEY.out hp (hs.imp fun h => by omega)]
            unfold Chs
            rw [List.length_map, plain_flat]
            exact ownsRow_base ho HM2.out.size)
          have HM8 := Lib.hid (HM2.out.trans (HMr.out.trans hm (fun x hx => Or.inr (HB.out x hx))) (by simp))
          clear hp hs ho hm HSORT
          go_wp2_with fail
          go_ret
          exact ⟨_, rfl, HX8.out, HM8.out⟩
end Go.Proofs.YtmcekhgmmocajaaGreatDoor
namespace Go.Proofs.YtmcekhgmmocajaaGreatDoor
open Go.RowKit Me Go.BigFrame

theorem ord_srt {L : List EntP} (h : ordE L = true) : SrtE L := by
  unfold ordE at h
  rw [List.all_eq_true] at h
  have hlt := ord_lt (L := L) (fun j x e hx he => by
    have h1 := h (j + 1) (List.mem_range.2 (List.getElem?_eq_some_iff.1 he).1)
    rw [he] at h1
    have hj := (List.getElem?_eq_some_iff.1 hx).1
    have hl : (L.take (j + 1)).getLast? = some x := by
      rw [List.getLast?_eq_getElem?, List.length_take, Nat.min_eq_left (by omega), List.getElem?_take, if_pos (by omega)]
      exact hx
    unfold ordAt at h1
    rw [hl] at h1
    simp only [Bool.and_eq_true, decide_eq_true_eq] at h1
    exact h1.2.2)
  unfold SrtE Dg.Srt
  rw [List.pairwise_iff_getElem]
  intro i j hi hj hij
  exact hlt (j - i - 1) i L[i] L[j] (List.getElem?_eq_getElem hi) (by rw [show i + (j - i - 1) + 1 = j by omega]; exact List.getElem?_eq_getElem hj)
theorem enc_srt {L : List EntP} {b : List UInt8} (h : encP L = (b, 0)) : SrtE L := by
  refine ord_srt ?_
  unfold encP at h
  split at h
  · simp at h
  · split at h
    · simp at h
    · rename_i h1
      simpa using h1
/-- What Diff tells. -/
def diffP (a b : List UInt8) : List (ByteArray × Bool × Bool) × Nat :=
  if (decP a).2 ≠ 0 ∨ (decP b).2 ≠ 0 then ([], 210) else (Dg.mrg cmpP EntP.path sameE (decP a).1 (decP b).1, 0)
def DiffPost (w : World) (r : List (ByteArray × Bool × Bool) × Nat) (x : Ending) (w' : World) : Prop :=
  ∃ v, x = .returned (.tuple #[v, .int .i64 (r.2 : Int)]) ∧ Chs w' w.heap.size v r.1 ∧ Mods [] w w'
set_option maxRecDepth 100000 in
set_option maxHeartbeats 2000000 in
theorem ddiff_any {w : World} (a b : List UInt8) {va vb : Value} (ha : Rd w va (a.map byteV)) (hb : Rd w vb (b.map byteV)) (la : a.length ≤ 100000000) (lb : b.length ≤ 100000000) (hT : Tabs w) :
    Calls Tryz.prog 16 #[va, vb] w (DiffPost w (diffP a b)) := by
  have HB := Lib.hid hb
  have HD := Lib.hid (decode_any a ha la hT)
  have HE := Lib.hid (show diffP a b = if (decP a).2 ≠ 0 ∨ (decP b).2 ≠ 0 then ([], 210) else (Dg.mrg cmpP EntP.path sameE (decP a).1 (decP b).1, 0) from rfl)
  have HC := Lib.hid (dec_cases a la)
  have HC2 := Lib.hid (dec_cases b lb)
  have hbl := hb
  obtain ⟨Aa, ca, rfl, -⟩ := ha
  obtain ⟨Ab, cb, rfl, -⟩ := hb
  clear hbl
  rw [List.length_map] at *
  go_enter Tryz.func16, Tryz.ntmps16
  go_wp2_with fail
  refine HD.out.mono ?_
  rintro x w1 ⟨v1, rfl, he, hm⟩
  have HM1 := Lib.hid hm
  have HD2 := Lib.hid (decode_any b (HB.out.mods hm (by simp)) lb (hT.mods hm))
  clear HD HB hm
  rcases HC.out with ⟨L, hd, henc, hsm, hml⟩ | hd
  · rw [hd] at he HE ⊢
    simp only at he
    have HEL := Lib.hid (fun w' (hw : Mods [] w1 w') => (he.mods0 hw).ents)
    have hsL := enc_srt henc
    obtain ⟨A1, c1, rfl, -⟩ := he.ents
    clear he hd henc HC
    go_wp2_with fail
    refine HD2.out.mono ?_
    rintro x w2 ⟨v2, rfl, he, hm⟩
    have HM2 := Lib.hid (HM1.out.trans hm (by simp))
    rcases HC2.out with ⟨M, hd2, henc2, hsm2, hml2⟩ | hd2
    · rw [hd2] at he HE ⊢
      simp only at he
      have hsM := enc_srt henc2
      have hL := HEL.out w2 hm
      have hM := he.ents
      obtain ⟨A2, c2, rfl, -⟩ := he.ents
      have HDD := Lib.hid (diff_any L M hL hM hsL hsM hsm hsm2 hml hml2 (hT.mods HM2.out))
      clear he hd2 henc2 hL hM hsL hsM hsm hsm2 HEL hm HC2
      go_wp2_with fail
      refine HDD.out.mono ?_
      rintro x w3 ⟨v3, rfl, ho, hm⟩
      have HO := Lib.hid (ownsRow_base ho HM2.out.size)
      have HM3 := Lib.hid (HM2.out.trans hm (by simp))
      obtain ⟨A3, c3, rfl⟩ := own_ctor ho
      clear ho hm HDD
      go_wp2_with fail
      go_ret2
      rw [HE.out, if_neg (by simp)]
      exact ⟨_, rfl, HO.out, HM3.out⟩
    · rw [hd2] at he HE ⊢
      obtain ⟨A2, c2, rfl⟩ := ento_nil he
      clear he hd2 hsm HEL hm HC2 hsL
      go_wp2_with fail
      go_ret2
      rw [HE.out, if_pos (Or.inr (by decide))]
      exact ⟨_, rfl, World.ownsRow_nil _ _ _ _, HM2.out⟩
  · rw [hd] at he HE ⊢
    obtain ⟨A1, c1, rfl⟩ := ento_nil he
    clear he hd HC HC2 HD2
    go_wp2_with fail
    go_ret2
    rw [HE.out, if_pos (Or.inl (by decide))]
    exact ⟨_, rfl, World.ownsRow_nil _ _ _ _, HM1.out⟩
end Go.Proofs.YtmcekhgmmocajaaGreatDoor
