/- A writer in memory: what it means that one stands in a block, and the walks of room and of the four puts. -/
import Derived.Test.YtmcekhgmmocajaaGreatDoorMem
import Derived.Test.YtmcekhgmmocajaaGreatDoorRead
import Derived.Test.YtmcekhgmmocajaaGreatDoorGood
namespace Go.Proofs.YtmcekhgmmocajaaGreatDoor
open Go.RowKit Me

def byteV (c : UInt8) : Value := .int .u8 (c.toNat : Int)
def intV (n : Nat) : Value := .int .i64 (n : Int)

def foot (a : Nat) (vb vo : Value) : List Nat := a :: (vb.ownBlock.toList ++ vo.ownBlock.toList)

/-- A writer stands in block a. -/
structure IsW (T : TypeId) (w : World) (a : Nat) (S : WSt) (vb vo : Value) : Prop where
  wf : S.Wf
  cells : w.heap[a]? = some (.cells #[.int .i64 (S.limit : Int), vb, vo, .int .i64 (S.err : Int)] T (0, 0))
  b : w.ownsRow 0 5 1 vb S.bytes.length (S.bytes.map byteV)
  o : w.ownsRow 0 3 1 vo S.opens.length (S.opens.map intV)

theorem cell4 {w : World} {a : Nat} {x0 x1 x2 x3 : Value} {T : TypeId} (h : w.heap[a]? = some (.cells #[x0, x1, x2, x3] T (0, 0))) :
    w.cell? ⟨a, 0, none⟩ = some x0 ∧ w.cell? ⟨a, 1, none⟩ = some x1 ∧ w.cell? ⟨a, 2, none⟩ = some x2 ∧ w.cell? ⟨a, 3, none⟩ = some x3 ∧
    w.frozen? ⟨a, 1, none⟩ = false ∧ w.frozen? ⟨a, 2, none⟩ = false ∧ w.frozen? ⟨a, 3, none⟩ = false := by
  refine ⟨?_, ?_, ?_, ?_, frozen_of_row _ _ _ _ _ h, frozen_of_row _ _ _ _ _ h, frozen_of_row _ _ _ _ _ h⟩ <;> (rw [cell_of_row _ _ _ _ _ _ h]; rfl)
theorem ownsRow_slice {w : World} {base : Nat} {e : TypeId} {size : Nat} {v : Value} {n : Nat} {xs : List Value} (h : w.ownsRow base e size v n xs) :
    ∃ A c, v = .slice A n c ∧ n ≤ c ∧ c ≤ maxLen := by
  rcases ownsRow_form h with ⟨rfl, rfl, _⟩ | ⟨g, cap, rfl, h1, h2, _⟩
  · exact ⟨none, 0, rfl, Nat.le_refl _, by unfold maxLen; omega⟩
  · exact ⟨_, _, rfl, h1, h2⟩

theorem IsW.drewN {T : TypeId} {w : World} {a : Nat} {S : WSt} {vb vo : Value} (h : IsW T w a S vb vo) (k : Nat) : IsW T (w.drewN k) a S vb vo := ⟨h.wf, h.cells, h.b, h.o⟩
theorem wrow {T : TypeId} {w : World} {a : Nat} {S : WSt} {vb vo : Value} (h : IsW T w a S vb vo) (hT : T ≠ 5 ∧ T ≠ 3) : vb.ownBlock ≠ some a ∧ vo.ownBlock ≠ some a ∧ ∀ k, vb.ownBlock = some k → vo.ownBlock ≠ some k :=
  ⟨ownsRow_not h.b h.cells (Ne.symm hT.1), ownsRow_not h.o h.cells (Ne.symm hT.2), ownsRow_kind h.b h.o (by decide)⟩
theorem ownsRow_set {w : World} {base : Nat} {e : TypeId} {size : Nat} {v : Value} {n : Nat} {xs : List Value} (h : w.ownsRow base e size v n xs) {a : Addr} (ha : v.ownBlock ≠ some a.block) (u : Value) : (w.setCell a u).ownsRow base e size v n xs := ownsRow_setCell_other h ha u

/-- A writer goes wrong. -/
theorem IsW.wrong {T : TypeId} {w : World} {a : Nat} {S : WSt} {vb vo : Value} (h : IsW T w a S vb vo) (hT : T ≠ 5 ∧ T ≠ 3) (e : Nat) (he : e ≤ 100) : IsW T (w.setCell ⟨a, 3, none⟩ (.int .i64 (e : Int))) a { S with err := e } vb vo :=
  ⟨⟨h.wf.limit, h.wf.bytes, h.wf.opens, h.wf.many, he⟩, by rw [heap_setCell_same _ _ _ _ _ _ h.cells]; rfl, ownsRow_set h.b (wrow h hT).1 _, ownsRow_set h.o (wrow h hT).2.1 _⟩

set_option maxHeartbeats 400000 in
theorem room_err {T : TypeId} {a : Nat} {S : WSt} {vb vo : Value} {w : World} (h : IsW T w a S vb vo) (n : Int) (he : S.err ≠ 0) :
    Calls Tryz.prog 51 #[.pointer (some ⟨a, 0, none⟩), .int .i64 n] w fun e w' => e = .returned (.bool false) ∧ w = w' := by
  obtain ⟨c0, c1, c2, c3, f1, f2, f3⟩ := cell4 h.cells
  have he' : ((S.err : Int) != 0) = true := by rw [bne_iff_ne]; omega
  clear he h c0 c1 c2 f1 f2 f3
  go_enter Tryz.func51, Tryz.ntmps51
  go_wp2_with fail
  go_ret
  exact ⟨rfl, rfl⟩
set_option maxHeartbeats 400000 in
theorem room_fits {T : TypeId} {a : Nat} {S : WSt} {vb vo : Value} {w : World} (h : IsW T w a S vb vo) (n : Int) (_h0 : 0 ≤ n) (_h1 : n ≤ 9223372036854775807) (he : S.err = 0) (hf : (S.bytes.length : Int) + n ≤ S.limit) :
    Calls Tryz.prog 51 #[.pointer (some ⟨a, 0, none⟩), .int .i64 n] w fun e w' => e = .returned (.bool true) ∧ ∃ k, w.drewN k = w' := by
  obtain ⟨c0, c1, c2, c3, f1, f2, f3⟩ := cell4 h.cells
  obtain ⟨A, c, rfl, hlc, hcm⟩ := ownsRow_slice h.b
  have hl := h.wf.limit
  have hb := h.wf.bytes
  rw [he] at c3
  clear he h c2 f1 f2
  go_enter Tryz.func51, Tryz.ntmps51
  go_wp2_with fail
  go_quiet (fail)
  go_wp2_with fail
  go_ret
  exact ⟨rfl, _, rfl⟩
set_option maxHeartbeats 400000 in
theorem room_full {T : TypeId} {a : Nat} {S : WSt} {vb vo : Value} {w : World} (h : IsW T w a S vb vo) (hT : T ≠ 5 ∧ T ≠ 3) (n : Int) (h0 : 0 ≤ n) (_h1 : n ≤ 9223372036854775807) (he : S.err = 0) (hf : (S.limit : Int) < (S.bytes.length : Int) + n) :
    Calls Tryz.prog 51 #[.pointer (some ⟨a, 0, none⟩), .int .i64 n] w fun e w' => e = .returned (.bool false) ∧ IsW T w' a { S with err := 11 } vb vo ∧ Mods [a] w w' := by
  obtain ⟨c0, c1, c2, c3, f1, f2, f3⟩ := cell4 h.cells
  have hw := fun k => (h.drewN k).wrong hT 11 (by omega)
  have HW := Lib.hid hw
  obtain ⟨A, c, rfl, hlc, hcm⟩ := ownsRow_slice h.b
  have hl := h.wf.limit
  have hb := h.wf.bytes
  rw [he] at c3
  clear he h c2 f1 f2 hw
  go_enter Tryz.func51, Tryz.ntmps51
  go_wp2_with fail
  go_quiet (fail)
  go_wp2_with fail
  go_ret
  exact ⟨rfl, HW.out _, ((Mods.refl _ _).drewN _).setCell (Or.inl (by simp)) _⟩

theorem mem_foot {a k : Nat} {vb vo : Value} : k ∈ foot a vb vo ↔ k = a ∨ vb.ownBlock = some k ∨ vo.ownBlock = some k := by
  simp [foot, Option.mem_toList]
theorem IsW.mods {T : TypeId} {w w' : World} {a : Nat} {S : WSt} {vb vo : Value} {F : List Nat} (h : IsW T w a S vb vo) (hm : Mods F w w') (hd : ∀ k ∈ foot a vb vo, k ∉ F) : IsW T w' a S vb vo :=
  ⟨h.wf, hm.heap h.cells (hd a (mem_foot.2 (Or.inl rfl))), ownsRow_mods h.b hm (fun k hk => hd k (mem_foot.2 (Or.inr (Or.inl hk)))), ownsRow_mods h.o hm (fun k hk => hd k (mem_foot.2 (Or.inr (Or.inr hk))))⟩
theorem IsW.lt {T : TypeId} {w : World} {a : Nat} {S : WSt} {vb vo : Value} (h : IsW T w a S vb vo) : ∀ k ∈ foot a vb vo, k < w.heap.size := by
  intro k hk
  rcases mem_foot.1 hk with rfl | hk | hk
  · exact (Array.getElem?_eq_some_iff.1 h.cells).1
  · exact ownsRow_lt h.b k hk
  · exact ownsRow_lt h.o k hk

def WSt.add (S : WSt) (bs : List UInt8) : WSt := { S with bytes := S.bytes ++ bs }
theorem WSt.Wf.add {S : WSt} (h : S.Wf) (bs : List UInt8) (hf : S.bytes.length + bs.length ≤ S.limit) : (S.add bs).Wf :=
  ⟨h.limit, by simp only [WSt.add, List.length_append]; omega, fun q hq => by have := h.opens q hq; simp only [WSt.add, List.length_append]; omega, by have := h.many; simp only [WSt.add, List.length_append]; omega, h.err⟩

/-- Bytes have been put behind a writer's own. -/
theorem IsW.app {T : TypeId} {W w1 : World} {a : Nat} {S : WSt} {vb vo v' : Value} {m : Nat} {bs : List UInt8} {news : List Value} (h : IsW T W a S vb vo) (hT : T ≠ 5 ∧ T ≠ 3) (hg : W.grownBy w1 vb.ownBlock)
    (hown : w1.ownsRow 0 5 1 v' (S.bytes.length + m) (S.bytes.map byteV ++ news)) (hat : v'.ownBlock = vb.ownBlock ∨ v'.ownBlock = some W.heap.size) (hn : news = bs.map byteV) (hf : S.bytes.length + bs.length ≤ S.limit) :
    IsW T (w1.setCell ⟨a, 1, none⟩ v') a (S.add bs) v' vo ∧ Mods (foot a vb vo) W (w1.setCell ⟨a, 1, none⟩ v') := by
  have hr := wrow h hT
  have ha : w1.heap[a]? = some (.cells #[.int .i64 (S.limit : Int), vb, vo, .int .i64 (S.err : Int)] T (0, 0)) := by
    rw [hg.block a (Array.getElem?_eq_some_iff.1 h.cells).1 (fun e => hr.1 e.symm)]
    exact h.cells
  have hm : m = bs.length := by
    have := hown.1
    simp [hn] at this
    omega
  have hvb : v'.ownBlock ≠ some a := by
    rcases hat with e | e
    · rw [e]; exact hr.1
    · rw [e]
      have := (Array.getElem?_eq_some_iff.1 h.cells).1
      intro e'
      have := Option.some.inj e'
      omega
  refine ⟨⟨h.wf.add bs hf, by rw [heap_setCell_same _ _ _ _ _ _ ha]; rfl, ?_, ?_⟩, ?_⟩
  · have hx := ownsRow_set hown (a := ⟨a, 1, none⟩) hvb v'
    rw [hn, ← List.map_append, hm] at hx
    simpa [WSt.add] using hx
  · refine ownsRow_set (h.o.kept hg ?_) hr.2.1 v'
    by_cases e : vo.ownBlock = none
    · exact Or.inl e
    · refine Or.inr fun e2 => ?_
      obtain ⟨k, hk⟩ := Option.ne_none_iff_exists'.1 e
      exact hr.2.2 k (by rw [← e2]; exact hk) hk
  · exact ((Mods.refl _ _).grown hg (fun b hb => Or.inl (mem_foot.2 (Or.inr (Or.inl hb))))).setCell (p := ⟨a, 1, none⟩) (Or.inl (mem_foot.2 (Or.inl rfl))) _

theorem info5 : (Tryz.prog.info? 5).map (fun i => (i.zero, i.size, i.bytes)) = some (some (.int .u8 0), 1, 1) := by kernel_rfl
theorem info3 : (Tryz.prog.info? 3).map (fun i => (i.zero, i.size, i.bytes)) = some (some (.int .i64 0), 1, 8) := by kernel_rfl
theorem bytes_one (l : List UInt8) : ∀ u ∈ l.map byteV, u.oneCell' = true := by
  intro u hu
  obtain ⟨_, _, rfl⟩ := List.mem_map.1 hu
  rfl

/-- Where a number is being written. -/
def RelPut (T : TypeId) (a : Nat) (S : WSt) (vb vo : Value) (n wd : Nat) (w : World) (i v : Value) (wr : World) : Prop :=
  ∃ (j q : Nat) (vb' : Value), j ≤ wd ∧ i = .int .i64 j ∧ v = .int .u64 (q : Int) ∧ q = n / 256 ^ j ∧ IsW T wr a (S.add (le n j)) vb' vo ∧ Mods (foot a vb vo) w wr ∧ (vb'.ownBlock = vb.ownBlock ∨ ∃ k, vb'.ownBlock = some k ∧ w.heap.size ≤ k)


theorem le_snoc (n j : Nat) : le n (j + 1) = le n j ++ [UInt8.ofNat (n / 256 ^ j)] := by
  induction j generalizing n with
  | zero => simp [le]
  | succ j ih =>
    rw [le, ih, le]
    simp only [List.cons_append, Nat.div_div_eq_div_mul]
    rw [← Nat.pow_succ']
theorem byteV_mod (q : Nat) : byteV (UInt8.ofNat q) = .int .u8 ((q : Int) % 256) := by
  simp [byteV]
theorem add_add (S : WSt) (b c : List UInt8) : (S.add b).add c = S.add (b ++ c) := by simp [WSt.add]
theorem relPut_step {T : TypeId} {a : Nat} {S : WSt} {vb vo vb' v' : Value} {n wd j q : Nat} {w wr w1 : World} {i y : Int} (hT : T ≠ 5 ∧ T ≠ 3) (hj : j < wd) (hi : i = (j : Int) + 1) (hy : y = (q : Int) / 256) (hq : q = n / 256 ^ j)
    (hw : IsW T wr a (S.add (le n j)) vb' vo) (hm : Mods (foot a vb vo) w wr) (hat : vb'.ownBlock = vb.ownBlock ∨ ∃ k, vb'.ownBlock = some k ∧ w.heap.size ≤ k)
    (hf : S.bytes.length + wd ≤ S.limit) (o : Obj) (hown : w1.ownsRow 0 5 1 v' ((S.add (le n j)).bytes.length + 1) ((S.add (le n j)).bytes.map byteV ++ [.int .u8 ((q : Int) % 256)]))
    (hg : (wr.alloc o).grownBy w1 vb'.ownBlock) (h2 : v'.ownBlock = vb'.ownBlock ∨ v'.ownBlock = some (wr.heap.size + 1)) :
    RelPut T a S vb vo n wd w (.int .i64 i) (.int .u64 y) (w1.setCell ⟨a, 1, none⟩ v') := by
  have hw' : IsW T (wr.alloc o) a (S.add (le n j)) vb' vo := hw.mods ((Mods.refl [] _).alloc o) (fun _ _ h => by cases h)
  have hbl : (S.add (le n j)).bytes.length = S.bytes.length + j := by simp [WSt.add, le_length]
  have h3 := hw'.app hT hg hown (by simpa using h2) (bs := [UInt8.ofNat q]) (by simp [byteV_mod]) (by rw [hbl]; simp only [List.length_cons, List.length_nil, WSt.add]; omega)
  rw [add_add, hq, ← le_snoc] at h3
  refine ⟨j + 1, q / 256, v', by omega, by rw [hi]; congr 1, by rw [hy]; congr 1, by rw [hq, Nat.div_div_eq_div_mul, ← Nat.pow_succ], h3.1, ?_, ?_⟩
  · refine (hm.alloc o).trans h3.2 (fun b hb => ?_)
    rcases mem_foot.1 hb with rfl | hb | hb
    · exact Or.inl (mem_foot.2 (Or.inl rfl))
    · rcases hat with e | ⟨k, e, hk⟩
      · exact Or.inl (mem_foot.2 (Or.inr (Or.inl (by rw [← e]; exact hb))))
      · rw [e] at hb
        obtain rfl := Option.some.inj hb
        exact Or.inr hk
    · exact Or.inl (mem_foot.2 (Or.inr (Or.inr hb)))
  · rcases h2 with e | e
    · rw [e]; exact hat
    · exact Or.inr ⟨_, e, by have := hm.size; omega⟩
/-- The cells that the walk reads behind an append. -/
theorem behind_app {T : TypeId} {w w1 : World} {a : Nat} {S : WSt} {vb vo : Value} (h : IsW T w a S vb vo) (hT : T ≠ 5 ∧ T ≠ 3) {o : Obj} (hg : (w.alloc o).grownBy w1 vb.ownBlock) :
    w1.cell? ⟨a, 1, none⟩ = some vb ∧ w1.frozen? ⟨a, 1, none⟩ = false ∧ w1.cell? ⟨a, 2, none⟩ = some vo ∧ w1.frozen? ⟨a, 2, none⟩ = false := by
  have hw' : IsW T (w.alloc o) a S vb vo := h.mods ((Mods.refl [] _).alloc o) (fun _ _ h => by cases h)
  have hr := wrow hw' hT
  have ha : w1.heap[a]? = some (.cells #[.int .i64 (S.limit : Int), vb, vo, .int .i64 (S.err : Int)] T (0, 0)) := by
    rw [hg.block a (Array.getElem?_eq_some_iff.1 hw'.cells).1 (fun e => hr.1 e.symm)]
    exact hw'.cells
  obtain ⟨_, c1, c2, _, f1, f2, _⟩ := cell4 ha
  exact ⟨c1, f1, c2, f2⟩
theorem own_ctor {w : World} {base : Nat} {e : TypeId} {size : Nat} {v : Value} {n : Nat} {xs : List Value} (h : w.ownsRow base e size v n xs) : ∃ A c, v = .slice A n c := by
  obtain ⟨A, c, h, _⟩ := ownsRow_slice h
  exact ⟨A, c, h⟩

/-- What a call of a writer leaves. -/
def WPost (T : TypeId) (w : World) (a : Nat) (vb vo : Value) (S' : WSt) (w' : World) : Prop :=
  ∃ vb' vo', IsW T w' a S' vb' vo' ∧ Mods (foot a vb vo) w w' ∧ ∀ k ∈ foot a vb' vo', k ∈ foot a vb vo ∨ w.heap.size ≤ k
theorem WPost.of_b {T : TypeId} {w w' : World} {a : Nat} {vb vo vb' : Value} {S' : WSt} (h : IsW T w' a S' vb' vo) (hm : Mods (foot a vb vo) w w') (hat : vb'.ownBlock = vb.ownBlock ∨ ∃ k, vb'.ownBlock = some k ∧ w.heap.size ≤ k) : WPost T w a vb vo S' w' := by
  refine ⟨vb', vo, h, hm, fun k hk => ?_⟩
  rcases mem_foot.1 hk with rfl | hk | hk
  · exact Or.inl (mem_foot.2 (Or.inl rfl))
  · rcases hat with e | ⟨j, e, hj⟩
    · exact Or.inl (mem_foot.2 (Or.inr (Or.inl (by rw [← e]; exact hk))))
    · rw [e] at hk
      obtain rfl := Option.some.inj hk
      exact Or.inr hj
  · exact Or.inl (mem_foot.2 (Or.inr (Or.inr hk)))
theorem WPost.same {T : TypeId} {w w' : World} {a : Nat} {vb vo : Value} {S' : WSt} (h : IsW T w' a S' vb vo) {F : List Nat} (hm : Mods F w w') (hF : ∀ k ∈ F, k ∈ foot a vb vo) : WPost T w a vb vo S' w' :=
  ⟨vb, vo, h, hm.mono (fun k hk => Or.inl (hF k hk)), fun _ hk => Or.inl hk⟩



set_option maxRecDepth 100000 in
set_option maxHeartbeats 400000 in
theorem put32_fits {a : Nat} {S : WSt} {vb vo : Value} {w : World} (h : IsW 88 w a S vb vo) (n : Nat) (hn : IntKind.u64.wrap (n : Int) = (n : Int)) (he : S.err = 0) (hf : S.bytes.length + 4 ≤ S.limit) :
    Calls Tryz.prog 52 #[.pointer (some ⟨a, 0, none⟩), .int .u32 n, .int .i64 4] w fun e w' => e = .returned (.tuple #[]) ∧ WPost 88 w a vb vo (S.add (le n 4)) w' := by
  have H := Lib.hid h
  have HE := Lib.hid he
  have HF := Lib.hid hf
  clear h he hf
  go_enter Tryz.func52, Tryz.ntmps52
  go_wp2_with fail
  refine (room_fits H.out 4 (by omega) (by omega) HE.out (by have := HF.out; omega)).mono ?_; rintro e w1 ⟨rfl, k, rfl⟩
  go_wp2_with fail
  go_loopw [14, 6] (fun i v wr => RelPut 88 a S vb vo n 4 w i v wr) (fun i _ _ => 4 - (intOf i).toNat)
  case atStart => exact ⟨0, n, vb, by omega, rfl, rfl, by simp, by have := H.out.drewN k; simpa [WSt.add, le] using this, (Mods.refl _ _).drewN _, Or.inl rfl⟩
  case round =>
    obtain ⟨j, q, vb', hj, rfl, rfl, hq, hw, hm, hat⟩ := hrel
    have HW := Lib.hid hw
    have HM := Lib.hid hm
    have HA := Lib.hid hat
    have HQ := Lib.hid hq
    obtain ⟨c0, c1, c2, c3, f1, f2, f3⟩ := cell4 hw.cells
    clear hw hm hat hq c0 c2 c3 f2 f3
    obtain ⟨i0, hi, hz0, hz1, hz2⟩ := info_parts info5
    have hsz : (S.add (le n j)).bytes.length + 1 ≤ 100000000 := by
      have h1 := HW.out.wf.bytes
      have h2 := HW.out.wf.limit
      simp only [WSt.add] at h1 h2 ⊢
      omega
    rcases Nat.lt_or_ge j 4 with hlt | hge
    · go_wp2_with (at_builtin; go_must (refine wpList_app _ rfl _ _ 22 22 rfl 0 5 i0 (.int .u8 0) 1 1 Tryz.underlying22 hi hz0 hz1 hz2 rfl _ _ _ rfl (HW.out.b.alloc _) _ 1 [.int .u8 ((q : Int) % 256)] rfl ?c1 ?c2 ?c3 ?c4 ?_))
      case c1 => exact src_one Tryz.underlying22 _ _ _ rfl
      case c2 => unfold maxLen; omega
      case c3 => omega
      case c4 => exact Nat.zero_le _
      intro v' w1 hown hgrow hat2
      obtain ⟨d1, g1, _, _⟩ := behind_app HW.out (by decide) hgrow
      obtain ⟨A', c', rfl⟩ := own_ctor hown
      have HR := Lib.hid (relPut_step (wd := 4) (by decide) hlt rfl rfl HQ.out HW.out HM.out HA.out HF.out _ hown hgrow hat2)
      clear hown hgrow hat2 c1 f1
      go_wp2_with fail
      exact ⟨HR.out, by simp [intOf]; omega⟩
    · obtain rfl : j = 4 := by omega
      go_wp2_with fail
      go_end0
      exact ⟨rfl, WPost.of_b HW.out HM.out HA.out⟩
set_option maxHeartbeats 400000 in
theorem put32_err {a : Nat} {S : WSt} {vb vo : Value} {w : World} (h : IsW 88 w a S vb vo) (n : Nat) (he : S.err ≠ 0) :
    Calls Tryz.prog 52 #[.pointer (some ⟨a, 0, none⟩), .int .u32 n, .int .i64 4] w fun e w' => e = .returned (.tuple #[]) ∧ w = w' := by
  have H := Lib.hid h
  have HE := Lib.hid he
  clear h he
  go_enter Tryz.func52, Tryz.ntmps52
  go_wp2_with fail
  refine (room_err H.out 4 HE.out).mono ?_; rintro e w1 ⟨rfl, rfl⟩
  go_wp2_with fail
  refine bodyPost_ret (results_none rfl _ _ _) rfl ?_
  exact ⟨rfl, rfl⟩
set_option maxHeartbeats 400000 in
theorem put32_full {a : Nat} {S : WSt} {vb vo : Value} {w : World} (h : IsW 88 w a S vb vo) (n : Nat) (he : S.err = 0) (hf : S.limit < S.bytes.length + 4) :
    Calls Tryz.prog 52 #[.pointer (some ⟨a, 0, none⟩), .int .u32 n, .int .i64 4] w fun e w' => e = .returned (.tuple #[]) ∧ IsW 88 w' a { S with err := 11 } vb vo ∧ Mods [a] w w' := by
  have H := Lib.hid h
  have HE := Lib.hid he
  have HF := Lib.hid hf
  clear h he hf
  go_enter Tryz.func52, Tryz.ntmps52
  go_wp2_with fail
  refine (room_full H.out (by decide) 4 (by omega) (by omega) HE.out (by have := HF.out; omega)).mono ?_; rintro e w1 ⟨rfl, hw, hm⟩
  have HW := Lib.hid hw
  have HM := Lib.hid hm
  clear hw hm
  go_wp2_with fail
  refine bodyPost_ret (results_none rfl _ _ _) rfl ?_
  exact ⟨rfl, HW.out, HM.out⟩
theorem put32_any {a : Nat} {S : WSt} {vb vo : Value} {w : World} (h : IsW 88 w a S vb vo) (n : Nat) (hn : IntKind.u64.wrap (n : Int) = (n : Int)) :
    Calls Tryz.prog 52 #[.pointer (some ⟨a, 0, none⟩), .int .u32 n, .int .i64 4] w fun e w' => e = .returned (.tuple #[]) ∧ WPost 88 w a vb vo (S.put (le n 4)) w' := by
  by_cases he : S.err = 0
  · by_cases hf : S.limit < S.bytes.length + 4
    · rw [WSt.put_full _ he (by rw [le_length]; exact hf)]
      exact (put32_full h n he hf).mono fun _ _ ⟨h1, h2, h3⟩ => ⟨h1, WPost.same h2 h3 (by simp [foot])⟩
    · rw [WSt.put_fits _ he (by rw [le_length]; exact hf)]
      exact put32_fits h n hn he (by omega)
  · rw [WSt.put_err _ he]
    refine (put32_err h n he).mono ?_
    rintro _ _ ⟨h1, rfl⟩
    exact ⟨h1, WPost.same h (Mods.refl [] _) (by simp)⟩

set_option maxRecDepth 100000 in
set_option maxHeartbeats 400000 in
theorem put64_fits {a : Nat} {S : WSt} {vb vo : Value} {w : World} (h : IsW 88 w a S vb vo) (n : Nat) (_hn : IntKind.u64.wrap (n : Int) = (n : Int)) (he : S.err = 0) (hf : S.bytes.length + 8 ≤ S.limit) :
    Calls Tryz.prog 54 #[.pointer (some ⟨a, 0, none⟩), .int .u64 n, .int .i64 8] w fun e w' => e = .returned (.tuple #[]) ∧ WPost 88 w a vb vo (S.add (le n 8)) w' := by
  have H := Lib.hid h
  have HE := Lib.hid he
  have HF := Lib.hid hf
  clear h he hf
  go_enter Tryz.func54, Tryz.ntmps54
  go_wp2_with fail
  refine (room_fits H.out 8 (by omega) (by omega) HE.out (by have := HF.out; omega)).mono ?_; rintro e w1 ⟨rfl, k, rfl⟩
  go_wp2_with fail
  go_loopw [13, 6] (fun i v wr => RelPut 88 a S vb vo n 8 w i v wr) (fun i _ _ => 8 - (intOf i).toNat)
  case atStart => exact ⟨0, n, vb, by omega, rfl, rfl, by simp, by have := H.out.drewN k; simpa [WSt.add, le] using this, (Mods.refl _ _).drewN _, Or.inl rfl⟩
  case round =>
    obtain ⟨j, q, vb', hj, rfl, rfl, hq, hw, hm, hat⟩ := hrel
    have HW := Lib.hid hw
    have HM := Lib.hid hm
    have HA := Lib.hid hat
    have HQ := Lib.hid hq
    obtain ⟨c0, c1, c2, c3, f1, f2, f3⟩ := cell4 hw.cells
    clear hw hm hat hq c0 c2 c3 f2 f3
    obtain ⟨i0, hi, hz0, hz1, hz2⟩ := info_parts info5
    have hsz : (S.add (le n j)).bytes.length + 1 ≤ 100000000 := by
      have h1 := HW.out.wf.bytes
      have h2 := HW.out.wf.limit
      simp only [WSt.add] at h1 h2 ⊢
      omega
    rcases Nat.lt_or_ge j 8 with hlt | hge
    · go_wp2_with (at_builtin; go_must (refine wpList_app _ rfl _ _ 22 22 rfl 0 5 i0 (.int .u8 0) 1 1 Tryz.underlying22 hi hz0 hz1 hz2 rfl _ _ _ rfl (HW.out.b.alloc _) _ 1 [.int .u8 ((q : Int) % 256)] rfl ?c1 ?c2 ?c3 ?c4 ?_))
      case c1 => exact src_one Tryz.underlying22 _ _ _ rfl
      case c2 => unfold maxLen; omega
      case c3 => omega
      case c4 => exact Nat.zero_le _
      intro v' w1 hown hgrow hat2
      obtain ⟨d1, g1, _, _⟩ := behind_app HW.out (by decide) hgrow
      obtain ⟨A', c', rfl⟩ := own_ctor hown
      have HR := Lib.hid (relPut_step (wd := 8) (by decide) hlt rfl rfl HQ.out HW.out HM.out HA.out HF.out _ hown hgrow hat2)
      clear hown hgrow hat2 c1 f1
      go_wp2_with fail
      exact ⟨HR.out, by simp [intOf]; omega⟩
    · obtain rfl : j = 8 := by omega
      go_wp2_with fail
      go_end0
      exact ⟨rfl, WPost.of_b HW.out HM.out HA.out⟩
set_option maxHeartbeats 400000 in
theorem put64_err {a : Nat} {S : WSt} {vb vo : Value} {w : World} (h : IsW 88 w a S vb vo) (n : Nat) (he : S.err ≠ 0) :
    Calls Tryz.prog 54 #[.pointer (some ⟨a, 0, none⟩), .int .u64 n, .int .i64 8] w fun e w' => e = .returned (.tuple #[]) ∧ w = w' := by
  have H := Lib.hid h
  have HE := Lib.hid he
  clear h he
  go_enter Tryz.func54, Tryz.ntmps54
  go_wp2_with fail
  refine (room_err H.out 8 HE.out).mono ?_; rintro e w1 ⟨rfl, rfl⟩
  go_wp2_with fail
  refine bodyPost_ret (results_none rfl _ _ _) rfl ?_
  exact ⟨rfl, rfl⟩
set_option maxHeartbeats 400000 in
theorem put64_full {a : Nat} {S : WSt} {vb vo : Value} {w : World} (h : IsW 88 w a S vb vo) (n : Nat) (he : S.err = 0) (hf : S.limit < S.bytes.length + 8) :
    Calls Tryz.prog 54 #[.pointer (some ⟨a, 0, none⟩), .int .u64 n, .int .i64 8] w fun e w' => e = .returned (.tuple #[]) ∧ IsW 88 w' a { S with err := 11 } vb vo ∧ Mods [a] w w' := by
  have H := Lib.hid h
  have HE := Lib.hid he
  have HF := Lib.hid hf
  clear h he hf
  go_enter Tryz.func54, Tryz.ntmps54
  go_wp2_with fail
  refine (room_full H.out (by decide) 8 (by omega) (by omega) HE.out (by have := HF.out; omega)).mono ?_; rintro e w1 ⟨rfl, hw, hm⟩
  have HW := Lib.hid hw
  have HM := Lib.hid hm
  clear hw hm
  go_wp2_with fail
  refine bodyPost_ret (results_none rfl _ _ _) rfl ?_
  exact ⟨rfl, HW.out, HM.out⟩
theorem put64_any {a : Nat} {S : WSt} {vb vo : Value} {w : World} (h : IsW 88 w a S vb vo) (n : Nat) (hn : IntKind.u64.wrap (n : Int) = (n : Int)) :
    Calls Tryz.prog 54 #[.pointer (some ⟨a, 0, none⟩), .int .u64 n, .int .i64 8] w fun e w' => e = .returned (.tuple #[]) ∧ WPost 88 w a vb vo (S.put (le n 8)) w' := by
  by_cases he : S.err = 0
  · by_cases hf : S.limit < S.bytes.length + 8
    · rw [WSt.put_full _ he (by rw [le_length]; exact hf)]
      exact (put64_full h n he hf).mono fun _ _ ⟨h1, h2, h3⟩ => ⟨h1, WPost.same h2 h3 (by simp [foot])⟩
    · rw [WSt.put_fits _ he (by rw [le_length]; exact hf)]
      exact put64_fits h n hn he (by omega)
  · rw [WSt.put_err _ he]
    refine (put64_err h n he).mono ?_
    rintro _ _ ⟨h1, rfl⟩
    exact ⟨h1, WPost.same h (Mods.refl [] _) (by simp)⟩
end Go.Proofs.YtmcekhgmmocajaaGreatDoor
