/- The walk of stat.Mode: it returns the text modeL of its number; nothing that was there before the call has turned. | The walk of stat.ParseMode: it answers what Pl.parse says of the text; nothing that was there before the call has turned. -/
import Derived.Test.YtnpokdbpmnkbjaaGreatDoorRows
import Derived.Test.YtnpokdbpmnkbjaaGreatDoorMq
import Derived.WalkKit
import Derived.WalkSpells
import Derived.WalkLawsBesides
import Derived.Lib.SlBytesConst
import Derived.Lib.Hide
namespace Go.Proofs.YtnpokdbpmnkbjaaGreatDoor.Mo
open Go.RowKit

def byteV (c : UInt8) : Value := .int .u8 (c.toNat : Int)
def bytesA (l : List UInt8) : Array Value := (l.map byteV).toArray

theorem heap_set_mark (w : World) (g i : Nat) (cs : Array Value) (t : TypeId) (fr : Nat × Nat) (v : Value) (hg : w.heap[g]? = some (.cells cs t fr)) :
    (w.setCell ⟨g, i, none⟩ v).heap[g]? = some (.cells (cs.setIfInBounds i v) t fr) := by
  simp [World.setCell, Array.getElem?_modify, hg]
theorem frozen_mark (w : World) (g j : Nat) (cs : Array Value) (t : TypeId) (lo hi : Nat) (hg : w.heap[g]? = some (.cells cs t (lo, hi))) (h : j < lo) : w.frozen? ⟨g, j, none⟩ = false := by
  simp [World.frozen?, hg]; omega

theorem tb (n i : Nat) (hn : n < 4294967296) (hi : i < 32) : (bits .and .u32 (n : Int) ((2 ^ i : Nat) : Int) != 0) = n.testBit i := by
  rw [u32_and_nat n (2 ^ i) hn (by have := Nat.pow_lt_pow_right (a := 2) (by omega) hi; simpa using this), nat_bit]
  have hp : 0 < 2 ^ i := Nat.two_pow_pos i
  rw [Nat.testBit_eq_decide_div_mod_eq]
  rcases (show n / 2 ^ i % 2 = 0 ∨ n / 2 ^ i % 2 = 1 by omega) with h | h
  · rw [h]; simp
  · rw [h]
    rw [Nat.one_mul, decide_eq_true rfl]
    exact bne_iff_ne.2 (by omega)
theorem tb1 (n i : Nat) (hn : n < 4294967296) : (bits .and .u32 ((n : Int) / ((2 ^ i : Nat) : Int)) 1 != 0) = n.testBit i := by
  have h : (n : Int) / ((2 ^ i : Nat) : Int) = ((n / 2 ^ i : Nat) : Int) := by simp
  rw [h, show (1 : Int) = ((1 : Nat) : Int) from rfl, u32_and_nat _ 1 (Nat.lt_of_le_of_lt (Nat.div_le_self _ _) hn) (by omega), Nat.and_one_is_mod, Nat.testBit_eq_decide_div_mod_eq]
  rcases (show n / 2 ^ i % 2 = 0 ∨ n / 2 ^ i % 2 = 1 by omega) with h | h <;> rw [h] <;> simp

theorem andNot_rest (n : Nat) (hn : n < 4294967296) : bits .andNot .u32 (n : Int) 3825205759 = ((Pl.restOf n : Nat) : Int) := by
  rw [show (3825205759 : Int) = ((3825205759 : Nat) : Int) from rfl, u32_andNot_nat n _ hn (by omega)]
  rfl
theorem base_cells (n : Nat) (w wr : World) (h : wr.heap[w.heap.size]? = some (.cells (bytesA (Pl.cellsL n 4 9)) 5 (13, 14))) :
    ∀ j (hj : j < (Pl.baseL n).length), wr.cell? ((⟨w.heap.size, 0, none⟩ : Addr).add j) = some (.int .u8 ((Pl.baseL n)[j].toNat : Int)) := by
  intro j hj
  rw [Addr.add_lit, cell_of_row _ _ _ _ _ _ h]
  simp only [Nat.zero_add, bytesA, List.getElem?_toArray, List.getElem?_map]
  show ((Pl.baseL n)[j]?).map byteV = _
  rw [List.getElem?_eq_getElem hj]
  rfl
theorem info5 : (Tryz.prog.info? 5).map (fun i => (i.zero, i.size, i.bytes)) = some (some (.int .u8 0), 1, 1) := by kernel_rfl

theorem q_of (r s : Nat) : (r : Int) / (s : Int) = ((r / s : Nat) : Int) := by simp
theorem and15 (q : Nat) (hq : q < 4294967296) : bits .and .u32 (q : Int) 15 = ((q % 16 : Nat) : Int) := by
  rw [show (15 : Int) = ((15 : Nat) : Int) from rfl, u32_and_nat q 15 hq (by omega), nat_mask4]
theorem ownsRow_mono {w : World} {B B' : Nat} {e : TypeId} {size : Nat} {v : Value} {n : Nat} {xs : List Value} (h : w.ownsRow B e size v n xs) (hB : B' ≤ B) : w.ownsRow B' e size v n xs := by
  obtain ⟨h1, h2⟩ := h
  refine ⟨h1, ?_⟩
  rcases h2 with h2 | ⟨g, cap, cur, hv, hg, r⟩
  · exact Or.inl h2
  · exact Or.inr ⟨g, cap, cur, hv, by omega, r⟩
def hexS : ByteArray := ⟨#[48, 49, 50, 51, 52, 53, 54, 55, 56, 57, 97, 98, 99, 100, 101, 102]⟩
theorem hexS_at (d : Nat) (h : d < 16) : hexS[d]'h = Pl.hexc d := by
  rcases (show d = 0 ∨ d = 1 ∨ d = 2 ∨ d = 3 ∨ d = 4 ∨ d = 5 ∨ d = 6 ∨ d = 7 ∨ d = 8 ∨ d = 9 ∨ d = 10 ∨ d = 11 ∨ d = 12 ∨ d = 13 ∨ d = 14 ∨ d = 15 by omega) with rfl | rfl | rfl | rfl | rfl | rfl | rfl | rfl | rfl | rfl | rfl | rfl | rfl | rfl | rfl | rfl <;> rfl
theorem own_form {w : World} {B : Nat} {e : TypeId} {v : Value} {n : Nat} {xs : List Value} (h : w.ownsRow B e 1 v n xs) (hn : 0 < n) :
    ∃ g cap, v = .slice (some ⟨g, 0, none⟩) n cap ∧ ∀ j u, xs[j]? = some u → w.cell? ((⟨g, 0, none⟩ : Addr).add j) = some u := by
  rcases h.2 with ⟨_, h0⟩ | ⟨g, cap, cur, hv, _⟩
  · omega
  · exact ⟨g, cap, hv, h.cells (by rw [hv]; rfl)⟩
def RelH (n r : Nat) (w : World) (i v : Value) (wr : World) : Prop :=
  ∃ t : Nat, t ≤ 8 ∧ i = .int .i64 (28 - 4 * (t : Int)) ∧ Below w.heap.size w wr ∧ w.heap.size ≤ wr.heap.size ∧ wr.ownsRow w.heap.size 5 1 v (14 + (Pl.hexD r t).length) ((Pl.baseL n ++ [43] ++ Pl.hexD r t).map byteV)

theorem relH_skip {n r t : Nat} {w : World} {v : Value} {wr : World} {i : Int} (ht : t < 8) (hi : i = 28 - 4 * (t : Int) - 4) (hq : r / 2 ^ (28 - 4 * t) = 0) (hb : Below w.heap.size w wr) (hs : w.heap.size ≤ wr.heap.size)
    (ho : wr.ownsRow w.heap.size 5 1 v (14 + (Pl.hexD r t).length) ((Pl.baseL n ++ [43] ++ Pl.hexD r t).map byteV)) : RelH n r w (.int .i64 i) v wr := by
  refine ⟨t + 1, by omega, by rw [hi]; congr 1; omega, hb, hs, ?_⟩
  simp only [Pl.hexD, hq, if_true, List.append_nil]
  exact ho
theorem relH_add {n r t d : Nat} {w : World} {v' v : Value} {wr w2 : World} {i : Int} (ht : t < 8) (hi : i = 28 - 4 * (t : Int) - 4) (hq : r / 2 ^ (28 - 4 * t) ≠ 0) (hd : d = r / 2 ^ (28 - 4 * t) % 16) (hd16 : d < 16) (hb : Below w.heap.size w wr) (hs : w.heap.size ≤ wr.heap.size) {o : Obj}
    (hbl : ∀ k, v'.ownBlock = some k → w.heap.size ≤ k)
    (ho : w2.ownsRow w.heap.size 5 1 v (14 + (Pl.hexD r t).length + 1) ((Pl.baseL n ++ [43] ++ Pl.hexD r t).map byteV ++ [.int .u8 ((hexS[d]'hd16).toNat : Int)])) (hg : (wr.alloc o).grownBy w2 v'.ownBlock) : RelH n r w (.int .i64 i) v w2 := by
  refine ⟨t + 1, by omega, by rw [hi]; congr 1; omega, ((hb.alloc hs o).grown hg (by simp; omega) hbl), ?_, ?_⟩
  · have := hg.size
    simp at this
    omega
  · rw [hexS_at d hd16, hd] at ho
    simp only [Pl.hexD, hq, if_false, ← List.append_assoc, List.map_append, List.map_cons, List.map_nil, List.length_append, List.length_cons, List.length_nil] at ho ⊢
    exact ho

theorem modeL_rest (n r : Nat) (hr : r = Pl.restOf n) (h0 : Pl.restOf n > 0) : Pl.modeL n = Pl.baseL n ++ [43] ++ Pl.hexD r 8 := by
  unfold Pl.modeL
  rw [if_neg (by omega), hr]
theorem bytes_back {w : World} {g cap n r : Nat} (hc : ∀ j u, ((Pl.baseL n ++ [43] ++ Pl.hexD r 8).map byteV)[j]? = some u → w.cell? ((⟨g, 0, none⟩ : Addr).add j) = some u) :
    (convert 37 9 (.slice (some ⟨g, 0, none⟩) (14 + (Pl.hexD r 8).length) cap)).run Tryz.prog w = .ok (.string ⟨(Pl.baseL n ++ [43] ++ Pl.hexD r 8).toArray⟩) w := by
  have hl : (Pl.baseL n ++ [43] ++ Pl.hexD r 8).length = 14 + (Pl.hexD r 8).length := by simp [Pl.baseL_length]; omega
  rw [← hl]
  refine run_convert_bytes_back w 37 9 5 ⟨g, 0, none⟩ cap _ Tryz.underlying37 Tryz.underlying5 Tryz.underlying9 (fun j hj => hc j _ ?_)
  rw [List.getElem?_map, List.getElem?_eq_getElem hj]
  rfl

def kindsA : Array Value := #[.int .u32 2147483648, .int .u32 1073741824, .int .u32 536870912, .int .u32 67108864]

theorem set_bits (n k j i : Nat) (v : Value) (l' : List UInt8) (h : (bytesA (Pl.cellsL n k j)).setIfInBounds i v = bytesA l') {w : World} {g t : Nat} {fr : Nat × Nat}
    (hg : w.heap[g]? = some (.cells (bytesA (Pl.cellsL n k j)) t fr)) : (w.setCell ⟨g, i, none⟩ v).heap[g]? = some (.cells (bytesA l') t fr) := by
  rw [heap_set_mark _ _ _ _ _ _ _ hg, h]

theorem ks0 (n : Nat) (h : n.testBit 31 = true) : (bytesA (Pl.cellsL n 0 0)).setIfInBounds 0 (.int .u8 100) = bytesA (Pl.cellsL n 1 0) := by
  simp [bytesA, byteV, Pl.cellsL, Pl.lt, h]
theorem kn0 (n : Nat) (h : n.testBit 31 = false) : Pl.cellsL n 0 0 = Pl.cellsL n 1 0 := by
  simp [Pl.cellsL, Pl.lt, h]
theorem ks1 (n : Nat) (h : n.testBit 30 = true) : (bytesA (Pl.cellsL n 1 0)).setIfInBounds 1 (.int .u8 97) = bytesA (Pl.cellsL n 2 0) := by
  simp [bytesA, byteV, Pl.cellsL, Pl.lt, h]
theorem kn1 (n : Nat) (h : n.testBit 30 = false) : Pl.cellsL n 1 0 = Pl.cellsL n 2 0 := by
  simp [Pl.cellsL, Pl.lt, h]
theorem ks2 (n : Nat) (h : n.testBit 29 = true) : (bytesA (Pl.cellsL n 2 0)).setIfInBounds 2 (.int .u8 108) = bytesA (Pl.cellsL n 3 0) := by
  simp [bytesA, byteV, Pl.cellsL, Pl.lt, h]
theorem kn2 (n : Nat) (h : n.testBit 29 = false) : Pl.cellsL n 2 0 = Pl.cellsL n 3 0 := by
  simp [Pl.cellsL, Pl.lt, h]
theorem ks3 (n : Nat) (h : n.testBit 26 = true) : (bytesA (Pl.cellsL n 3 0)).setIfInBounds 3 (.int .u8 116) = bytesA (Pl.cellsL n 4 0) := by
  simp [bytesA, byteV, Pl.cellsL, Pl.lt, h]
theorem kn3 (n : Nat) (h : n.testBit 26 = false) : Pl.cellsL n 3 0 = Pl.cellsL n 4 0 := by
  simp [Pl.cellsL, Pl.lt, h]
theorem rs0 (n : Nat) (h : n.testBit 8 = true) : (bytesA (Pl.cellsL n 4 0)).setIfInBounds 4 (.int .u8 114) = bytesA (Pl.cellsL n 4 1) := by
  simp [bytesA, byteV, Pl.cellsL, Pl.lt, h]
theorem rn0 (n : Nat) (h : n.testBit 8 = false) : Pl.cellsL n 4 0 = Pl.cellsL n 4 1 := by
  simp [Pl.cellsL, Pl.lt, h]
theorem rs1 (n : Nat) (h : n.testBit 7 = true) : (bytesA (Pl.cellsL n 4 1)).setIfInBounds 5 (.int .u8 119) = bytesA (Pl.cellsL n 4 2) := by
  simp [bytesA, byteV, Pl.cellsL, Pl.lt, h]
theorem rn1 (n : Nat) (h : n.testBit 7 = false) : Pl.cellsL n 4 1 = Pl.cellsL n 4 2 := by
  simp [Pl.cellsL, Pl.lt, h]
theorem rs2 (n : Nat) (h : n.testBit 6 = true) : (bytesA (Pl.cellsL n 4 2)).setIfInBounds 6 (.int .u8 120) = bytesA (Pl.cellsL n 4 3) := by
  simp [bytesA, byteV, Pl.cellsL, Pl.lt, h]
theorem rn2 (n : Nat) (h : n.testBit 6 = false) : Pl.cellsL n 4 2 = Pl.cellsL n 4 3 := by
  simp [Pl.cellsL, Pl.lt, h]
theorem rs3 (n : Nat) (h : n.testBit 5 = true) : (bytesA (Pl.cellsL n 4 3)).setIfInBounds 7 (.int .u8 114) = bytesA (Pl.cellsL n 4 4) := by
  simp [bytesA, byteV, Pl.cellsL, Pl.lt, h]
theorem rn3 (n : Nat) (h : n.testBit 5 = false) : Pl.cellsL n 4 3 = Pl.cellsL n 4 4 := by
  simp [Pl.cellsL, Pl.lt, h]
theorem rs4 (n : Nat) (h : n.testBit 4 = true) : (bytesA (Pl.cellsL n 4 4)).setIfInBounds 8 (.int .u8 119) = bytesA (Pl.cellsL n 4 5) := by
  simp [bytesA, byteV, Pl.cellsL, Pl.lt, h]
theorem rn4 (n : Nat) (h : n.testBit 4 = false) : Pl.cellsL n 4 4 = Pl.cellsL n 4 5 := by
  simp [Pl.cellsL, Pl.lt, h]
theorem rs5 (n : Nat) (h : n.testBit 3 = true) : (bytesA (Pl.cellsL n 4 5)).setIfInBounds 9 (.int .u8 120) = bytesA (Pl.cellsL n 4 6) := by
  simp [bytesA, byteV, Pl.cellsL, Pl.lt, h]
theorem rn5 (n : Nat) (h : n.testBit 3 = false) : Pl.cellsL n 4 5 = Pl.cellsL n 4 6 := by
  simp [Pl.cellsL, Pl.lt, h]
theorem rs6 (n : Nat) (h : n.testBit 2 = true) : (bytesA (Pl.cellsL n 4 6)).setIfInBounds 10 (.int .u8 114) = bytesA (Pl.cellsL n 4 7) := by
  simp [bytesA, byteV, Pl.cellsL, Pl.lt, h]
theorem rn6 (n : Nat) (h : n.testBit 2 = false) : Pl.cellsL n 4 6 = Pl.cellsL n 4 7 := by
  simp [Pl.cellsL, Pl.lt, h]
theorem rs7 (n : Nat) (h : n.testBit 1 = true) : (bytesA (Pl.cellsL n 4 7)).setIfInBounds 11 (.int .u8 119) = bytesA (Pl.cellsL n 4 8) := by
  simp [bytesA, byteV, Pl.cellsL, Pl.lt, h]
theorem rn7 (n : Nat) (h : n.testBit 1 = false) : Pl.cellsL n 4 7 = Pl.cellsL n 4 8 := by
  simp [Pl.cellsL, Pl.lt, h]
theorem rs8 (n : Nat) (h : n.testBit 0 = true) : (bytesA (Pl.cellsL n 4 8)).setIfInBounds 12 (.int .u8 120) = bytesA (Pl.cellsL n 4 9) := by
  simp [bytesA, byteV, Pl.cellsL, Pl.lt, h]
theorem rn8 (n : Nat) (h : n.testBit 0 = false) : Pl.cellsL n 4 8 = Pl.cellsL n 4 9 := by
  simp [Pl.cellsL, Pl.lt, h]

def RelK (n : Nat) (w : World) (i : Value) (wr : World) : Prop :=
  ∃ k : Nat, k ≤ 4 ∧ i = .int .i64 k ∧ Below w.heap.size w wr ∧ wr.heap.size = w.heap.size + 2 ∧ wr.heap[w.heap.size]? = some (.cells (bytesA (Pl.cellsL n k 0)) 5 (13, 14)) ∧ wr.heap[w.heap.size + 1]? = some (.cells kindsA 29 (0, 0))
def RelR (n : Nat) (w : World) (i : Value) (wr : World) : Prop :=
  ∃ k : Nat, k ≤ 9 ∧ i = .int .i64 k ∧ Below w.heap.size w wr ∧ wr.heap.size = w.heap.size + 2 ∧ wr.heap[w.heap.size]? = some (.cells (bytesA (Pl.cellsL n 4 k)) 5 (13, 14))

set_option maxRecDepth 100000 in
set_option maxHeartbeats 1000000 in
theorem mode_any (n : Nat) (hn : n < 4294967296) (w : World) :
    Calls Tryz.prog 44 #[.int .u32 n] w fun e w' => e = .returned (.string ⟨(Pl.modeL n).toArray⟩) ∧ Below w.heap.size w w' := by
  have kc := fun (w : World) (C : Array Value) (n c : Nat) => Lib.run_convert_bytes_const (P := Tryz.prog) w 37 5 C n c Tryz.underlying37 Tryz.underlying5
  go_enter Tryz.func44, Tryz.ntmps44
  go_wp2_with fail
  clear kc
  go_loopw [14] (fun i wr => RelK n w i wr) (fun i _ => 4 - (intOf i).toNat)
  case atStart => exact ⟨0, by omega, rfl, (((Below.refl _ _).alloc (Nat.le_refl _) _).alloc (by simp) _), by simp, heap_alloc2_old _ _ _, heap_alloc2_new _ _ _⟩
  case round =>
    obtain ⟨k, hk, rfl, hbel, hsz, hcs, hb1⟩ := hrel
    have HC := Lib.hid hcs
    have HB := Lib.hid hb1
    have HZ := Lib.hid hsz
    clear hcs hb1 hsz
    rcases Nat.lt_or_ge k 4 with hlt | hge
    · rcases (show k = 0 ∨ k = 1 ∨ k = 2 ∨ k = 3 by omega) with rfl | rfl | rfl | rfl

      · have hc1 : wr.cell? ⟨w.heap.size + 1, 0, none⟩ = some (.int .u32 2147483648) := by rw [cell_of_row _ _ _ _ _ _ HB.out]; rfl
        have hc2 : wr.cell? ⟨w.heap.size, 0, none⟩ = some (.int .u8 45) := by rw [cell_of_row _ _ _ _ _ _ HC.out]; rfl
        have hf2 : wr.frozen? ⟨w.heap.size, 0, none⟩ = false := frozen_mark _ _ _ _ _ _ _ HC.out (by omega)
        have TB := Lib.hid (tb n 31 hn (by omega))
        go_wp2_with fail
        · have h : (bits .and .u32 (n : Int) 2147483648 != 0) = true := by assumption
          exact ⟨⟨1, by omega, rfl, hbel.setCell (by simp) _, by simpa [World.setCell] using HZ.out, set_bits n 0 0 0 _ _ (ks0 n (TB.out.symm.trans h)) HC.out, (heap_setCell_other _ _ _ _ (by simp)).trans HB.out⟩, by simp [intOf]⟩
        · have h : (bits .and .u32 (n : Int) 2147483648 != 0) = false := by assumption
          exact ⟨⟨1, by omega, rfl, hbel, HZ.out, by rw [← kn0 n (TB.out.symm.trans h)]; exact HC.out, HB.out⟩, by simp [intOf]⟩
      · have hc1 : wr.cell? ⟨w.heap.size + 1, 1, none⟩ = some (.int .u32 1073741824) := by rw [cell_of_row _ _ _ _ _ _ HB.out]; rfl
        have hc2 : wr.cell? ⟨w.heap.size, 1, none⟩ = some (.int .u8 45) := by rw [cell_of_row _ _ _ _ _ _ HC.out]; rfl
        have hf2 : wr.frozen? ⟨w.heap.size, 1, none⟩ = false := frozen_mark _ _ _ _ _ _ _ HC.out (by omega)
        have TB := Lib.hid (tb n 30 hn (by omega))
        go_wp2_with fail
        · have h : (bits .and .u32 (n : Int) 1073741824 != 0) = true := by assumption
          exact ⟨⟨2, by omega, rfl, hbel.setCell (by simp) _, by simpa [World.setCell] using HZ.out, set_bits n 1 0 1 _ _ (ks1 n (TB.out.symm.trans h)) HC.out, (heap_setCell_other _ _ _ _ (by simp)).trans HB.out⟩, by simp [intOf]⟩
        · have h : (bits .and .u32 (n : Int) 1073741824 != 0) = false := by assumption
          exact ⟨⟨2, by omega, rfl, hbel, HZ.out, by rw [← kn1 n (TB.out.symm.trans h)]; exact HC.out, HB.out⟩, by simp [intOf]⟩
      · have hc1 : wr.cell? ⟨w.heap.size + 1, 2, none⟩ = some (.int .u32 536870912) := by rw [cell_of_row _ _ _ _ _ _ HB.out]; rfl
        have hc2 : wr.cell? ⟨w.heap.size, 2, none⟩ = some (.int .u8 45) := by rw [cell_of_row _ _ _ _ _ _ HC.out]; rfl
        have hf2 : wr.frozen? ⟨w.heap.size, 2, none⟩ = false := frozen_mark _ _ _ _ _ _ _ HC.out (by omega)
        have TB := Lib.hid (tb n 29 hn (by omega))
        go_wp2_with fail
        · have h : (bits .and .u32 (n : Int) 536870912 != 0) = true := by assumption
          exact ⟨⟨3, by omega, rfl, hbel.setCell (by simp) _, by simpa [World.setCell] using HZ.out, set_bits n 2 0 2 _ _ (ks2 n (TB.out.symm.trans h)) HC.out, (heap_setCell_other _ _ _ _ (by simp)).trans HB.out⟩, by simp [intOf]⟩
        · have h : (bits .and .u32 (n : Int) 536870912 != 0) = false := by assumption
          exact ⟨⟨3, by omega, rfl, hbel, HZ.out, by rw [← kn2 n (TB.out.symm.trans h)]; exact HC.out, HB.out⟩, by simp [intOf]⟩
      · have hc1 : wr.cell? ⟨w.heap.size + 1, 3, none⟩ = some (.int .u32 67108864) := by rw [cell_of_row _ _ _ _ _ _ HB.out]; rfl
        have hc2 : wr.cell? ⟨w.heap.size, 3, none⟩ = some (.int .u8 45) := by rw [cell_of_row _ _ _ _ _ _ HC.out]; rfl
        have hf2 : wr.frozen? ⟨w.heap.size, 3, none⟩ = false := frozen_mark _ _ _ _ _ _ _ HC.out (by omega)
        have TB := Lib.hid (tb n 26 hn (by omega))
        go_wp2_with fail
        · have h : (bits .and .u32 (n : Int) 67108864 != 0) = true := by assumption
          exact ⟨⟨4, by omega, rfl, hbel.setCell (by simp) _, by simpa [World.setCell] using HZ.out, set_bits n 3 0 3 _ _ (ks3 n (TB.out.symm.trans h)) HC.out, (heap_setCell_other _ _ _ _ (by simp)).trans HB.out⟩, by simp [intOf]⟩
        · have h : (bits .and .u32 (n : Int) 67108864 != 0) = false := by assumption
          exact ⟨⟨4, by omega, rfl, hbel, HZ.out, by rw [← kn3 n (TB.out.symm.trans h)]; exact HC.out, HB.out⟩, by simp [intOf]⟩
    · obtain rfl : k = 4 := by omega
      go_wp2_with fail
      obtain ⟨wo, rfl⟩ : ∃ wo : World, wo = wr := ⟨_, rfl⟩
      go_loopw [29] (fun i wr => RelR n w i wr) (fun i _ => 9 - (intOf i).toNat)
      case atStart => exact ⟨0, by omega, rfl, hbel, HZ.out, HC.out⟩
      case round =>
        clear HC HB HZ hbel
        obtain ⟨k, hk, rfl, hbel, hsz, hcs⟩ := hrel
        have HC := Lib.hid hcs
        have HZ := Lib.hid hsz
        clear hcs hsz
        rcases Nat.lt_or_ge k 9 with hlt | hge
        · rcases (show k = 0 ∨ k = 1 ∨ k = 2 ∨ k = 3 ∨ k = 4 ∨ k = 5 ∨ k = 6 ∨ k = 7 ∨ k = 8 by omega) with rfl | rfl | rfl | rfl | rfl | rfl | rfl | rfl | rfl
          · have hc2 : wr.cell? ⟨w.heap.size, 4, none⟩ = some (.int .u8 45) := by rw [cell_of_row _ _ _ _ _ _ HC.out]; rfl
            have hf2 : wr.frozen? ⟨w.heap.size, 4, none⟩ = false := frozen_mark _ _ _ _ _ _ _ HC.out (by omega)
            have TB := Lib.hid (tb1 n 8 hn)
            go_wp2_with fail
            · have h : (bits .and .u32 ((n : Int) / 256) 1 != 0) = true := by assumption
              exact ⟨⟨1, by omega, rfl, hbel.setCell (by simp) _, by simpa [World.setCell] using HZ.out, set_bits n 4 0 4 _ _ (rs0 n (TB.out.symm.trans h)) HC.out⟩, by simp [intOf]⟩
            · have h : (bits .and .u32 ((n : Int) / 256) 1 != 0) = false := by assumption
              exact ⟨⟨1, by omega, rfl, hbel, HZ.out, by rw [← rn0 n (TB.out.symm.trans h)]; exact HC.out⟩, by simp [intOf]⟩
          · have hc2 : wr.cell? ⟨w.heap.size, 5, none⟩ = some (.int .u8 45) := by rw [cell_of_row _ _ _ _ _ _ HC.out]; rfl
            have hf2 : wr.frozen? ⟨w.heap.size, 5, none⟩ = false := frozen_mark _ _ _ _ _ _ _ HC.out (by omega)
            have TB := Lib.hid (tb1 n 7 hn)
            go_wp2_with fail
            · have h : (bits .and .u32 ((n : Int) / 128) 1 != 0) = true := by assumption
              exact ⟨⟨2, by omega, rfl, hbel.setCell (by simp) _, by simpa [World.setCell] using HZ.out, set_bits n 4 1 5 _ _ (rs1 n (TB.out.symm.trans h)) HC.out⟩, by simp [intOf]⟩
            · have h : (bits .and .u32 ((n : Int) / 128) 1 != 0) = false := by assumption
              exact ⟨⟨2, by omega, rfl, hbel, HZ.out, by rw [← rn1 n (TB.out.symm.trans h)]; exact HC.out⟩, by simp [intOf]⟩
          · have hc2 : wr.cell? ⟨w.heap.size, 6, none⟩ = some (.int .u8 45) := by rw [cell_of_row _ _ _ _ _ _ HC.out]; rfl
            have hf2 : wr.frozen? ⟨w.heap.size, 6, none⟩ = false := frozen_mark _ _ _ _ _ _ _ HC.out (by omega)
            have TB := Lib.hid (tb1 n 6 hn)
            go_wp2_with fail
            · have h : (bits .and .u32 ((n : Int) / 64) 1 != 0) = true := by assumption
              exact ⟨⟨3, by omega, rfl, hbel.setCell (by simp) _, by simpa [World.setCell] using HZ.out, set_bits n 4 2 6 _ _ (rs2 n (TB.out.symm.trans h)) HC.out⟩, by simp [intOf]⟩
            · have h : (bits .and .u32 ((n : Int) / 64) 1 != 0) = false := by assumption
              exact ⟨⟨3, by omega, rfl, hbel, HZ.out, by rw [← rn2 n (TB.out.symm.trans h)]; exact HC.out⟩, by simp [intOf]⟩
          · have hc2 : wr.cell? ⟨w.heap.size, 7, none⟩ = some (.int .u8 45) := by rw [cell_of_row _ _ _ _ _ _ HC.out]; rfl
            have hf2 : wr.frozen? ⟨w.heap.size, 7, none⟩ = false := frozen_mark _ _ _ _ _ _ _ HC.out (by omega)
            have TB := Lib.hid (tb1 n 5 hn)
            go_wp2_with fail
            · have h : (bits .and .u32 ((n : Int) / 32) 1 != 0) = true := by assumption
              exact ⟨⟨4, by omega, rfl, hbel.setCell (by simp) _, by simpa [World.setCell] using HZ.out, set_bits n 4 3 7 _ _ (rs3 n (TB.out.symm.trans h)) HC.out⟩, by simp [intOf]⟩
            · have h : (bits .and .u32 ((n : Int) / 32) 1 != 0) = false := by assumption
              exact ⟨⟨4, by omega, rfl, hbel, HZ.out, by rw [← rn3 n (TB.out.symm.trans h)]; exact HC.out⟩, by simp [intOf]⟩
          · have hc2 : wr.cell? ⟨w.heap.size, 8, none⟩ = some (.int .u8 45) := by rw [cell_of_row _ _ _ _ _ _ HC.out]; rfl
            have hf2 : wr.frozen? ⟨w.heap.size, 8, none⟩ = false := frozen_mark _ _ _ _ _ _ _ HC.out (by omega)
            have TB := Lib.hid (tb1 n 4 hn)
            go_wp2_with fail
            · have h : (bits .and .u32 ((n : Int) / 16) 1 != 0) = true := by assumption
              exact ⟨⟨5, by omega, rfl, hbel.setCell (by simp) _, by simpa [World.setCell] using HZ.out, set_bits n 4 4 8 _ _ (rs4 n (TB.out.symm.trans h)) HC.out⟩, by simp [intOf]⟩
            · have h : (bits .and .u32 ((n : Int) / 16) 1 != 0) = false := by assumption
              exact ⟨⟨5, by omega, rfl, hbel, HZ.out, by rw [← rn4 n (TB.out.symm.trans h)]; exact HC.out⟩, by simp [intOf]⟩
          · have hc2 : wr.cell? ⟨w.heap.size, 9, none⟩ = some (.int .u8 45) := by rw [cell_of_row _ _ _ _ _ _ HC.out]; rfl
            have hf2 : wr.frozen? ⟨w.heap.size, 9, none⟩ = false := frozen_mark _ _ _ _ _ _ _ HC.out (by omega)
            have TB := Lib.hid (tb1 n 3 hn)
            go_wp2_with fail
            · have h : (bits .and .u32 ((n : Int) / 8) 1 != 0) = true := by assumption
              exact ⟨⟨6, by omega, rfl, hbel.setCell (by simp) _, by simpa [World.setCell] using HZ.out, set_bits n 4 5 9 _ _ (rs5 n (TB.out.symm.trans h)) HC.out⟩, by simp [intOf]⟩
            · have h : (bits .and .u32 ((n : Int) / 8) 1 != 0) = false := by assumption
              exact ⟨⟨6, by omega, rfl, hbel, HZ.out, by rw [← rn5 n (TB.out.symm.trans h)]; exact HC.out⟩, by simp [intOf]⟩
          · have hc2 : wr.cell? ⟨w.heap.size, 10, none⟩ = some (.int .u8 45) := by rw [cell_of_row _ _ _ _ _ _ HC.out]; rfl
            have hf2 : wr.frozen? ⟨w.heap.size, 10, none⟩ = false := frozen_mark _ _ _ _ _ _ _ HC.out (by omega)
            have TB := Lib.hid (tb1 n 2 hn)
            go_wp2_with fail
            · have h : (bits .and .u32 ((n : Int) / 4) 1 != 0) = true := by assumption
              exact ⟨⟨7, by omega, rfl, hbel.setCell (by simp) _, by simpa [World.setCell] using HZ.out, set_bits n 4 6 10 _ _ (rs6 n (TB.out.symm.trans h)) HC.out⟩, by simp [intOf]⟩
            · have h : (bits .and .u32 ((n : Int) / 4) 1 != 0) = false := by assumption
              exact ⟨⟨7, by omega, rfl, hbel, HZ.out, by rw [← rn6 n (TB.out.symm.trans h)]; exact HC.out⟩, by simp [intOf]⟩
          · have hc2 : wr.cell? ⟨w.heap.size, 11, none⟩ = some (.int .u8 45) := by rw [cell_of_row _ _ _ _ _ _ HC.out]; rfl
            have hf2 : wr.frozen? ⟨w.heap.size, 11, none⟩ = false := frozen_mark _ _ _ _ _ _ _ HC.out (by omega)
            have TB := Lib.hid (tb1 n 1 hn)
            go_wp2_with fail
            · have h : (bits .and .u32 ((n : Int) / 2) 1 != 0) = true := by assumption
              exact ⟨⟨8, by omega, rfl, hbel.setCell (by simp) _, by simpa [World.setCell] using HZ.out, set_bits n 4 7 11 _ _ (rs7 n (TB.out.symm.trans h)) HC.out⟩, by simp [intOf]⟩
            · have h : (bits .and .u32 ((n : Int) / 2) 1 != 0) = false := by assumption
              exact ⟨⟨8, by omega, rfl, hbel, HZ.out, by rw [← rn7 n (TB.out.symm.trans h)]; exact HC.out⟩, by simp [intOf]⟩
          · have hc2 : wr.cell? ⟨w.heap.size, 12, none⟩ = some (.int .u8 45) := by rw [cell_of_row _ _ _ _ _ _ HC.out]; rfl
            have hf2 : wr.frozen? ⟨w.heap.size, 12, none⟩ = false := frozen_mark _ _ _ _ _ _ _ HC.out (by omega)
            have TB := Lib.hid (tb1 n 0 hn)
            go_wp2_with fail
            · have h : (bits .and .u32 ((n : Int)) 1 != 0) = true := by assumption
              exact ⟨⟨9, by omega, rfl, hbel.setCell (by simp) _, by simpa [World.setCell] using HZ.out, set_bits n 4 8 12 _ _ (rs8 n (TB.out.symm.trans (by simpa using h))) HC.out⟩, by simp [intOf]⟩
            · have h : (bits .and .u32 ((n : Int)) 1 != 0) = false := by assumption
              exact ⟨⟨9, by omega, rfl, hbel, HZ.out, by rw [← rn8 n (TB.out.symm.trans (by simpa using h))]; exact HC.out⟩, by simp [intOf]⟩
        · obtain rfl : k = 9 := by omega
          rcases Nat.eq_zero_or_pos (Pl.restOf n) with h0 | h0
          · have hAN : (bits .andNot .u32 (n : Int) 3825205759 == 0) = true := by rw [andNot_rest n hn, h0]; rfl
            have hcv : (convert 37 9 (.slice (some ⟨w.heap.size, 0, none⟩) 13 13)).run Tryz.prog wr = .ok (.string ⟨(Pl.baseL n).toArray⟩) wr :=
              run_convert_bytes_back wr 37 9 5 ⟨w.heap.size, 0, none⟩ 13 (Pl.baseL n) Tryz.underlying37 Tryz.underlying5 Tryz.underlying9 (base_cells n w wr HC.out)
            go_wp2_with fail
            go_ret
            exact ⟨by simp [Pl.modeL, h0], hbel⟩
          · obtain ⟨r, hr⟩ : ∃ r, r = Pl.restOf n := ⟨_, rfl⟩
            have hAN : bits .andNot .u32 (n : Int) 3825205759 = (r : Int) := by rw [andNot_rest n hn, hr]
            have hr0 : ((r : Int) == 0) = false := by simp; omega
            have HR := Lib.hid hr
            clear hr
            obtain ⟨i0, hi, hz0, hz1, hz2⟩ := info_parts info5
            go_wp2_with (at_builtin; refine wpList_append_grows _ rfl _ _ 37 rfl 5 i0 (.int .u8 0) 1 1 Tryz.underlying37 hi hz0 hz1 hz2 rfl (by decide) (some ⟨w.heap.size,0,none⟩) 13 13 ((Pl.baseL n).map byteV) rfl (by simp) (by simp [Pl.baseL_length]) ?c1 ⟨wr.heap.size,0,none⟩ 1 1 [.int .u8 43] rfl rfl ?c2 ?c3 (by omega) ?c5 ?c6 ?_)
            case c1 =>
              rintro b hb j u hu
              obtain rfl : (⟨w.heap.size, 0, none⟩ : Addr) = b := by simpa using hb
              have hj : j < (Pl.baseL n).length := by
                have := (List.getElem?_eq_some_iff.1 hu).1
                simpa using this
              rw [List.getElem?_map, List.getElem?_eq_getElem hj] at hu
              obtain rfl : byteV (Pl.baseL n)[j] = u := by simpa using hu
              have hx := base_cells n w wr HC.out j hj
              rw [World.cell?_alloc_lt _ _ _ (by have := HZ.out; simp [Addr.add_lit]; omega)]
              exact hx
            case c2 => exact cell_one_new _ _ _
            case c3 => intro u hu; simp at hu; subst hu; rfl
            case c5 => decide
            case c6 => decide
            intro v' w1 hown hgrow
            go_wp2_with fail
            have hz1' : w.heap.size + 2 + 1 ≤ w1.heap.size := by have := hgrow.size; have := HZ.out; simp at *; omega
            have hbel1 : Below w.heap.size w w1 := ((hbel.alloc (by have := HZ.out; omega) _)).grown hgrow (by have := HZ.out; simp; omega) (fun k hk => by cases hk)
            have HO := Lib.hid hown
            clear hown hgrow HC hbel
            go_loopw [8, 3] (fun i v wr => RelH n r w i v wr) (fun i _ _ => ((intOf i) + 4).toNat)
            case atStart => exact ⟨0, by omega, by simp, hbel1, by omega, by simpa [Pl.hexD, byteV] using ownsRow_mono HO.out (by have := HZ.out; simp; omega)⟩
            case round =>
              clear HO hbel1 HZ hz1'
              obtain ⟨t, ht, hi8, hbel, hsz, hown⟩ := hrel
              have HO := Lib.hid hown
              clear hown
              rcases Nat.lt_or_ge t 8 with hlt | hge
              · rcases (show t = 0 ∨ t = 1 ∨ t = 2 ∨ t = 3 ∨ t = 4 ∨ t = 5 ∨ t = 6 ∨ t = 7 by omega) with rfl | rfl | rfl | rfl | rfl | rfl | rfl | rfl
                · obtain rfl := hi8
                  obtain ⟨q, hq⟩ : ∃ q, q = r / 268435456 := ⟨_, rfl⟩
                  have hqi : (r : Int) / 268435456 = (q : Int) := by rw [hq]; simp
                  have HQ := Lib.hid hq
                  clear hq
                  have hql : q < 4294967296 := by have h1 := HQ.out; have h2 := Pl.restOf_lt n; have h3 := HR.out; omega
                  rcases Nat.eq_zero_or_pos q with h0' | h0'
                  · obtain rfl := h0'
                    go_wp2_with fail
                    exact ⟨relH_skip (t := 0) (by omega) (by rfl) HQ.out.symm hbel hsz HO.out, by simp [intOf]⟩
                  · obtain ⟨d, hd⟩ : ∃ d, d = q % 16 := ⟨_, rfl⟩
                    have had : bits .and .u32 (q : Int) 15 = (d : Int) := by rw [hd]; exact and15 q hql
                    have hd16 : d < 16 := by omega
                    have HD := Lib.hid hd
                    clear hd
                    go_wp2_with (at_builtin; go_must (refine wpList_append_own _ rfl _ _ 37 rfl w.heap.size 5 i0 (.int .u8 0) 1 1 Tryz.underlying37 hi hz0 hz1 hz2 rfl (by decide) _ _ _ rfl (HO.out.alloc _) ⟨wr.heap.size, 0, none⟩ 1 1 [.int .u8 ((hexS[d]'hd16).toNat : Int)] rfl rfl ?c1 ?c2 ?c3 ?c4 ?c5 ?_))
                    case c1 => exact cell_one_new _ _ _
                    case c2 => intro u hu; simp at hu; subst hu; rfl
                    case c3 => have := Pl.hexD_len r 0; unfold maxLen; omega
                    case c4 => have := Pl.hexD_len r 0; omega
                    case c5 => simp; omega
                    intro v2 w2 hown2 hgrow2 _
                    have HX : Hid (RelH n r w (.int .i64 (24)) v2 w2) := Lib.hid (relH_add (t := 0) (by omega) (by rfl) (by have := HQ.out; simp only [Nat.reducePow, Nat.reduceMul, Nat.reduceSub]; omega) (HD.out.trans (by rw [HQ.out])) hd16 hbel hsz (fun k hk => (HO.out.lt k hk).1) hown2 hgrow2)
                    clear hown2 hgrow2 HO hbel
                    go_wp2_with fail
                    exact ⟨HX.out, by simp [intOf]⟩
                · obtain rfl := hi8
                  obtain ⟨q, hq⟩ : ∃ q, q = r / 16777216 := ⟨_, rfl⟩
                  have hqi : (r : Int) / 16777216 = (q : Int) := by rw [hq]; simp
                  have HQ := Lib.hid hq
                  clear hq
                  have hql : q < 4294967296 := by have h1 := HQ.out; have h2 := Pl.restOf_lt n; have h3 := HR.out; omega
                  rcases Nat.eq_zero_or_pos q with h0' | h0'
                  · obtain rfl := h0'
                    go_wp2_with fail
                    exact ⟨relH_skip (t := 1) (by omega) (by rfl) HQ.out.symm hbel hsz HO.out, by simp [intOf]⟩
                  · obtain ⟨d, hd⟩ : ∃ d, d = q % 16 := ⟨_, rfl⟩
                    have had : bits .and .u32 (q : Int) 15 = (d : Int) := by rw [hd]; exact and15 q hql
                    have hd16 : d < 16 := by omega
                    have HD := Lib.hid hd
                    clear hd
                    go_wp2_with (at_builtin; go_must (refine wpList_append_own _ rfl _ _ 37 rfl w.heap.size 5 i0 (.int .u8 0) 1 1 Tryz.underlying37 hi hz0 hz1 hz2 rfl (by decide) _ _ _ rfl (HO.out.alloc _) ⟨wr.heap.size, 0, none⟩ 1 1 [.int .u8 ((hexS[d]'hd16).toNat : Int)] rfl rfl ?c1 ?c2 ?c3 ?c4 ?c5 ?_))
                    case c1 => exact cell_one_new _ _ _
                    case c2 => intro u hu; simp at hu; subst hu; rfl
                    case c3 => have := Pl.hexD_len r 1; unfold maxLen; omega
                    case c4 => have := Pl.hexD_len r 1; omega
                    case c5 => simp; omega
                    intro v2 w2 hown2 hgrow2 _
                    have HX : Hid (RelH n r w (.int .i64 (20)) v2 w2) := Lib.hid (relH_add (t := 1) (by omega) (by rfl) (by have := HQ.out; simp only [Nat.reducePow, Nat.reduceMul, Nat.reduceSub]; omega) (HD.out.trans (by rw [HQ.out])) hd16 hbel hsz (fun k hk => (HO.out.lt k hk).1) hown2 hgrow2)
                    clear hown2 hgrow2 HO hbel
                    go_wp2_with fail
                    exact ⟨HX.out, by simp [intOf]⟩
                · obtain rfl := hi8
                  obtain ⟨q, hq⟩ : ∃ q, q = r / 1048576 := ⟨_, rfl⟩
                  have hqi : (r : Int) / 1048576 = (q : Int) := by rw [hq]; simp
                  have HQ := Lib.hid hq
                  clear hq
                  have hql : q < 4294967296 := by have h1 := HQ.out; have h2 := Pl.restOf_lt n; have h3 := HR.out; omega
                  rcases Nat.eq_zero_or_pos q with h0' | h0'
                  · obtain rfl := h0'
                    go_wp2_with fail
                    exact ⟨relH_skip (t := 2) (by omega) (by rfl) HQ.out.symm hbel hsz HO.out, by simp [intOf]⟩
                  · obtain ⟨d, hd⟩ : ∃ d, d = q % 16 := ⟨_, rfl⟩
                    have had : bits .and .u32 (q : Int) 15 = (d : Int) := by rw [hd]; exact and15 q hql
                    have hd16 : d < 16 := by omega
                    have HD := Lib.hid hd
                    clear hd
                    go_wp2_with (at_builtin; go_must (refine wpList_append_own _ rfl _ _ 37 rfl w.heap.size 5 i0 (.int .u8 0) 1 1 Tryz.underlying37 hi hz0 hz1 hz2 rfl (by decide) _ _ _ rfl (HO.out.alloc _) ⟨wr.heap.size, 0, none⟩ 1 1 [.int .u8 ((hexS[d]'hd16).toNat : Int)] rfl rfl ?c1 ?c2 ?c3 ?c4 ?c5 ?_))
                    case c1 => exact cell_one_new _ _ _
                    case c2 => intro u hu; simp at hu; subst hu; rfl
                    case c3 => have := Pl.hexD_len r 2; unfold maxLen; omega
                    case c4 => have := Pl.hexD_len r 2; omega
                    case c5 => simp; omega
                    intro v2 w2 hown2 hgrow2 _
                    have HX : Hid (RelH n r w (.int .i64 (16)) v2 w2) := Lib.hid (relH_add (t := 2) (by omega) (by rfl) (by have := HQ.out; simp only [Nat.reducePow, Nat.reduceMul, Nat.reduceSub]; omega) (HD.out.trans (by rw [HQ.out])) hd16 hbel hsz (fun k hk => (HO.out.lt k hk).1) hown2 hgrow2)
                    clear hown2 hgrow2 HO hbel
                    go_wp2_with fail
                    exact ⟨HX.out, by simp [intOf]⟩
                · obtain rfl := hi8
                  obtain ⟨q, hq⟩ : ∃ q, q = r / 65536 := ⟨_, rfl⟩
                  have hqi : (r : Int) / 65536 = (q : Int) := by rw [hq]; simp
                  have HQ := Lib.hid hq
                  clear hq
                  have hql : q < 4294967296 := by have h1 := HQ.out; have h2 := Pl.restOf_lt n; have h3 := HR.out; omega
                  rcases Nat.eq_zero_or_pos q with h0' | h0'
                  · obtain rfl := h0'
                    go_wp2_with fail
                    exact ⟨relH_skip (t := 3) (by omega) (by rfl) HQ.out.symm hbel hsz HO.out, by simp [intOf]⟩
                  · obtain ⟨d, hd⟩ : ∃ d, d = q % 16 := ⟨_, rfl⟩
                    have had : bits .and .u32 (q : Int) 15 = (d : Int) := by rw [hd]; exact and15 q hql
                    have hd16 : d < 16 := by omega
                    have HD := Lib.hid hd
                    clear hd
                    go_wp2_with (at_builtin; go_must (refine wpList_append_own _ rfl _ _ 37 rfl w.heap.size 5 i0 (.int .u8 0) 1 1 Tryz.underlying37 hi hz0 hz1 hz2 rfl (by decide) _ _ _ rfl (HO.out.alloc _) ⟨wr.heap.size, 0, none⟩ 1 1 [.int .u8 ((hexS[d]'hd16).toNat : Int)] rfl rfl ?c1 ?c2 ?c3 ?c4 ?c5 ?_))
                    case c1 => exact cell_one_new _ _ _
                    case c2 => intro u hu; simp at hu; subst hu; rfl
                    case c3 => have := Pl.hexD_len r 3; unfold maxLen; omega
                    case c4 => have := Pl.hexD_len r 3; omega
                    case c5 => simp; omega
                    intro v2 w2 hown2 hgrow2 _
                    have HX : Hid (RelH n r w (.int .i64 (12)) v2 w2) := Lib.hid (relH_add (t := 3) (by omega) (by rfl) (by have := HQ.out; simp only [Nat.reducePow, Nat.reduceMul, Nat.reduceSub]; omega) (HD.out.trans (by rw [HQ.out])) hd16 hbel hsz (fun k hk => (HO.out.lt k hk).1) hown2 hgrow2)
                    clear hown2 hgrow2 HO hbel
                    go_wp2_with fail
                    exact ⟨HX.out, by simp [intOf]⟩
                · obtain rfl := hi8
                  obtain ⟨q, hq⟩ : ∃ q, q = r / 4096 := ⟨_, rfl⟩
                  have hqi : (r : Int) / 4096 = (q : Int) := by rw [hq]; simp
                  have HQ := Lib.hid hq
                  clear hq
                  have hql : q < 4294967296 := by have h1 := HQ.out; have h2 := Pl.restOf_lt n; have h3 := HR.out; omega
                  rcases Nat.eq_zero_or_pos q with h0' | h0'
                  · obtain rfl := h0'
                    go_wp2_with fail
                    exact ⟨relH_skip (t := 4) (by omega) (by rfl) HQ.out.symm hbel hsz HO.out, by simp [intOf]⟩
                  · obtain ⟨d, hd⟩ : ∃ d, d = q % 16 := ⟨_, rfl⟩
                    have had : bits .and .u32 (q : Int) 15 = (d : Int) := by rw [hd]; exact and15 q hql
                    have hd16 : d < 16 := by omega
                    have HD := Lib.hid hd
                    clear hd
                    go_wp2_with (at_builtin; go_must (refine wpList_append_own _ rfl _ _ 37 rfl w.heap.size 5 i0 (.int .u8 0) 1 1 Tryz.underlying37 hi hz0 hz1 hz2 rfl (by decide) _ _ _ rfl (HO.out.alloc _) ⟨wr.heap.size, 0, none⟩ 1 1 [.int .u8 ((hexS[d]'hd16).toNat : Int)] rfl rfl ?c1 ?c2 ?c3 ?c4 ?c5 ?_))
                    case c1 => exact cell_one_new _ _ _
                    case c2 => intro u hu; simp at hu; subst hu; rfl
                    case c3 => have := Pl.hexD_len r 4; unfold maxLen; omega
                    case c4 => have := Pl.hexD_len r 4; omega
                    case c5 => simp; omega
                    intro v2 w2 hown2 hgrow2 _
                    have HX : Hid (RelH n r w (.int .i64 (8)) v2 w2) := Lib.hid (relH_add (t := 4) (by omega) (by rfl) (by have := HQ.out; simp only [Nat.reducePow, Nat.reduceMul, Nat.reduceSub]; omega) (HD.out.trans (by rw [HQ.out])) hd16 hbel hsz (fun k hk => (HO.out.lt k hk).1) hown2 hgrow2)
                    clear hown2 hgrow2 HO hbel
                    go_wp2_with fail
                    exact ⟨HX.out, by simp [intOf]⟩
                · obtain rfl := hi8
                  obtain ⟨q, hq⟩ : ∃ q, q = r / 256 := ⟨_, rfl⟩
                  have hqi : (r : Int) / 256 = (q : Int) := by rw [hq]; simp
                  have HQ := Lib.hid hq
                  clear hq
                  have hql : q < 4294967296 := by have h1 := HQ.out; have h2 := Pl.restOf_lt n; have h3 := HR.out; omega
                  rcases Nat.eq_zero_or_pos q with h0' | h0'
                  · obtain rfl := h0'
                    go_wp2_with fail
                    exact ⟨relH_skip (t := 5) (by omega) (by rfl) HQ.out.symm hbel hsz HO.out, by simp [intOf]⟩
                  · obtain ⟨d, hd⟩ : ∃ d, d = q % 16 := ⟨_, rfl⟩
                    have had : bits .and .u32 (q : Int) 15 = (d : Int) := by rw [hd]; exact and15 q hql
                    have hd16 : d < 16 := by omega
                    have HD := Lib.hid hd
                    clear hd
                    go_wp2_with (at_builtin; go_must (refine wpList_append_own _ rfl _ _ 37 rfl w.heap.size 5 i0 (.int .u8 0) 1 1 Tryz.underlying37 hi hz0 hz1 hz2 rfl (by decide) _ _ _ rfl (HO.out.alloc _) ⟨wr.heap.size, 0, none⟩ 1 1 [.int .u8 ((hexS[d]'hd16).toNat : Int)] rfl rfl ?c1 ?c2 ?c3 ?c4 ?c5 ?_))
                    case c1 => exact cell_one_new _ _ _
                    case c2 => intro u hu; simp at hu; subst hu; rfl
                    case c3 => have := Pl.hexD_len r 5; unfold maxLen; omega
                    case c4 => have := Pl.hexD_len r 5; omega
                    case c5 => simp; omega
                    intro v2 w2 hown2 hgrow2 _
                    have HX : Hid (RelH n r w (.int .i64 (4)) v2 w2) := Lib.hid (relH_add (t := 5) (by omega) (by rfl) (by have := HQ.out; simp only [Nat.reducePow, Nat.reduceMul, Nat.reduceSub]; omega) (HD.out.trans (by rw [HQ.out])) hd16 hbel hsz (fun k hk => (HO.out.lt k hk).1) hown2 hgrow2)
                    clear hown2 hgrow2 HO hbel
                    go_wp2_with fail
                    exact ⟨HX.out, by simp [intOf]⟩
                · obtain rfl := hi8
                  obtain ⟨q, hq⟩ : ∃ q, q = r / 16 := ⟨_, rfl⟩
                  have hqi : (r : Int) / 16 = (q : Int) := by rw [hq]; simp
                  have HQ := Lib.hid hq
                  clear hq
                  have hql : q < 4294967296 := by have h1 := HQ.out; have h2 := Pl.restOf_lt n; have h3 := HR.out; omega
                  rcases Nat.eq_zero_or_pos q with h0' | h0'
                  · obtain rfl := h0'
                    go_wp2_with fail
                    exact ⟨relH_skip (t := 6) (by omega) (by rfl) HQ.out.symm hbel hsz HO.out, by simp [intOf]⟩
                  · obtain ⟨d, hd⟩ : ∃ d, d = q % 16 := ⟨_, rfl⟩
                    have had : bits .and .u32 (q : Int) 15 = (d : Int) := by rw [hd]; exact and15 q hql
                    have hd16 : d < 16 := by omega
                    have HD := Lib.hid hd
                    clear hd
                    go_wp2_with (at_builtin; go_must (refine wpList_append_own _ rfl _ _ 37 rfl w.heap.size 5 i0 (.int .u8 0) 1 1 Tryz.underlying37 hi hz0 hz1 hz2 rfl (by decide) _ _ _ rfl (HO.out.alloc _) ⟨wr.heap.size, 0, none⟩ 1 1 [.int .u8 ((hexS[d]'hd16).toNat : Int)] rfl rfl ?c1 ?c2 ?c3 ?c4 ?c5 ?_))
                    case c1 => exact cell_one_new _ _ _
                    case c2 => intro u hu; simp at hu; subst hu; rfl
                    case c3 => have := Pl.hexD_len r 6; unfold maxLen; omega
                    case c4 => have := Pl.hexD_len r 6; omega
                    case c5 => simp; omega
                    intro v2 w2 hown2 hgrow2 _
                    have HX : Hid (RelH n r w (.int .i64 (0)) v2 w2) := Lib.hid (relH_add (t := 6) (by omega) (by rfl) (by have := HQ.out; simp only [Nat.reducePow, Nat.reduceMul, Nat.reduceSub]; omega) (HD.out.trans (by rw [HQ.out])) hd16 hbel hsz (fun k hk => (HO.out.lt k hk).1) hown2 hgrow2)
                    clear hown2 hgrow2 HO hbel
                    go_wp2_with fail
                    exact ⟨HX.out, by simp [intOf]⟩
                · obtain rfl := hi8
                  have HQ : Hid (r = r / 1) := Lib.hid (by simp)
                  have hql : r < 4294967296 := by have h1 := HQ.out; have h2 := Pl.restOf_lt n; have h3 := HR.out; omega
                  rcases Nat.eq_zero_or_pos r with h0' | h0'
                  · have := HR.out; omega
                  · obtain ⟨d, hd⟩ : ∃ d, d = r % 16 := ⟨_, rfl⟩
                    have had : bits .and .u32 (r : Int) 15 = (d : Int) := by rw [hd]; exact and15 r hql
                    have hd16 : d < 16 := by omega
                    have HD := Lib.hid hd
                    clear hd
                    go_wp2_with (at_builtin; go_must (refine wpList_append_own _ rfl _ _ 37 rfl w.heap.size 5 i0 (.int .u8 0) 1 1 Tryz.underlying37 hi hz0 hz1 hz2 rfl (by decide) _ _ _ rfl (HO.out.alloc _) ⟨wr.heap.size, 0, none⟩ 1 1 [.int .u8 ((hexS[d]'hd16).toNat : Int)] rfl rfl ?c1 ?c2 ?c3 ?c4 ?c5 ?_))
                    case c1 => exact cell_one_new _ _ _
                    case c2 => intro u hu; simp at hu; subst hu; rfl
                    case c3 => have := Pl.hexD_len r 7; unfold maxLen; omega
                    case c4 => have := Pl.hexD_len r 7; omega
                    case c5 => simp; omega
                    intro v2 w2 hown2 hgrow2 _
                    have HX : Hid (RelH n r w (.int .i64 (-4)) v2 w2) := Lib.hid (relH_add (t := 7) (by omega) (by rfl) (by have := HQ.out; simp only [Nat.reducePow, Nat.reduceMul, Nat.reduceSub]; omega) (HD.out.trans (by simp)) hd16 hbel hsz (fun k hk => (HO.out.lt k hk).1) hown2 hgrow2)
                    clear hown2 hgrow2 HO hbel
                    go_wp2_with fail
                    exact ⟨HX.out, by simp [intOf]⟩
              · obtain rfl : t = 8 := by omega
                obtain rfl := hi8
                obtain ⟨g, cap, rfl, hcells⟩ := own_form HO.out (by omega)
                have HL := Lib.hid (bytes_back (cap := cap) hcells)
                clear hcells HO
                have hcv := HL.out
                go_wp2_with fail
                go_ret
                exact ⟨by rw [modeL_rest n r HR.out h0]; simp, hbel⟩
end Go.Proofs.YtnpokdbpmnkbjaaGreatDoor.Mo
namespace Go.Proofs.YtnpokdbpmnkbjaaGreatDoor.Mo
open Go.RowKit

theorem bytes_of (w : World) (t : ByteArray) (N : Nat) (hz : t.size = N) : ∃ cap W2, (convert 9 37 (.string t)).run Tryz.prog w = .ok (.slice (some ⟨w.heap.size, 0, none⟩) N cap) W2 ∧
    Below w.heap.size w W2 ∧ ∀ j (h : j < t.size), W2.cell? ⟨w.heap.size, j, none⟩ = some (.int .u8 (t[j].toNat : Int)) := by
  have h := run_bytes_of_string (P := Tryz.prog) w 9 37 5 t Tryz.underlying9 Tryz.underlying37 Tryz.underlying5
  rw [hz] at h
  generalize grownCap w N 0 5 = cap at h
  refine ⟨cap, _, h, ((Below.refl _ _).drew).alloc (Nat.le_refl _) _, fun j hj => ?_⟩
  have hc := World.cell?_alloc_mark w.drew (bytesRow t cap) 5 ((bytesRow t cap).size, (bytesRow t cap).size + 1) j
  rw [show w.drew.heap.size = w.heap.size from rfl] at hc
  rw [hc, bytesRow_at _ _ _ hj]
  rfl
theorem conv_tail (s : ByteArray) (w : World) (C : Obj) (N : Nat) (hN : N + 14 = s.size) : ∃ cap W2, (convert 9 37 (.string (s.extract 14 s.size))).run Tryz.prog (w.alloc C) = .ok (.slice (some ⟨w.heap.size + 1, 0, none⟩) N cap) W2 ∧
    Below w.heap.size w W2 ∧ ∀ j (h : 14 + j < s.size), W2.cell? ⟨w.heap.size + 1, j, none⟩ = some (.int .u8 (s[14 + j].toNat : Int)) := by
  have hz : (s.extract 14 s.size).size = N := by simp; omega
  obtain ⟨cap, W2, h1, h2, h3⟩ := bytes_of (w.alloc C) (s.extract 14 s.size) N hz
  have hz1 : (w.alloc C).heap.size = w.heap.size + 1 := by simp
  rw [hz1] at h1 h2 h3
  refine ⟨cap, W2, h1, ((Below.refl _ _).alloc (Nat.le_refl _) _).trans (h2.mono (by omega)), fun j hj => ?_⟩
  have hj2 : j < (s.extract 14 s.size).size := by omega
  have e : (s.extract 14 s.size)[j] = s[14 + j] := ByteArray.getElem_extract ..
  rw [h3 j hj2, e]


theorem sget (s : ByteArray) (k : Nat) (h : k < s.size) : s.data.toList.getD k 45 = s[k] := by
  have h' : k < s.data.toList.length := by simpa using h
  rw [List.getD_eq_getElem?_getD, List.getElem?_eq_getElem h']
  rfl
theorem or_val (m p : Nat) (hm : m < 4294967296) (hp : p < 4294967296) : bits .or .u32 (m : Int) (p : Int) = ((m ||| p : Nat) : Int) := u32_or_nat m p hm hp
theorem or_lt (m p : Nat) (hm : m < 4294967296) (hp : p < 4294967296) : m ||| p < 4294967296 := Nat.or_lt_two_pow (n := 32) hm hp
theorem is45 {c : UInt8} (h : ((c.toNat : Int) != 45) = true) : c ≠ 45 := by rintro rfl; exact absurd h (by decide)
theorem not45 {c : UInt8} (h : ((c.toNat : Int) != 45) = false) : c = 45 := by
  have : (c.toNat : Int) = 45 := by simpa using h
  exact UInt8.toNat_inj.1 (by have h45 : (45 : UInt8).toNat = 45 := rfl; omega)
theorem kinds_yes (l : List UInt8) (k : Nat) (h : l.getD k 45 ≠ 45) : Pl.kindsR l (k + 1) = Pl.kindsR l k ||| [2147483648, 1073741824, 536870912, 67108864].getD k 0 := if_neg h
theorem kinds_no (l : List UInt8) (k : Nat) (h : l.getD k 45 = 45) : Pl.kindsR l (k + 1) = Pl.kindsR l k := if_pos h
theorem rights_yes (l : List UInt8) (m k : Nat) (h : l.getD (4 + k) 45 ≠ 45) : Pl.rightsR l m (k + 1) = Pl.rightsR l m k ||| 2 ^ (8 - k) := if_neg h
theorem rights_no (l : List UInt8) (m k : Nat) (h : l.getD (4 + k) 45 = 45) : Pl.rightsR l m (k + 1) = Pl.rightsR l m k := if_pos h

def RelA (l : List UInt8) (i v : Value) : Prop := ∃ k m : Nat, k ≤ 4 ∧ i = .int .i64 k ∧ v = .int .u32 m ∧ m < 4294967296 ∧ m = Pl.kindsR l k
def RelB (l : List UInt8) (i v : Value) : Prop := ∃ k m : Nat, k ≤ 9 ∧ i = .int .i64 k ∧ v = .int .u32 m ∧ m < 4294967296 ∧ m = Pl.rightsR l (Pl.kindsR l 4) k
def RelC (l : List UInt8) (N : Nat) (i v : Value) : Prop := ∃ k x : Nat, k ≤ N ∧ i = .int .i64 k ∧ v = .int .u32 x ∧ x < 4294967296 ∧ x = Pl.foldR ((l.drop 14).take k)

theorem relA_yes {s : ByteArray} {k m p : Nat} {i : Int} (hk : k < 4) (hs : k < s.size) (hi : i = ((k + 1 : Nat) : Int)) (hm : m < 4294967296) (he : m = Pl.kindsR s.data.toList k) (hp : p = [2147483648, 1073741824, 536870912, 67108864].getD k 0) (hpl : p < 4294967296)
    (h : ((s[k].toNat : Int) != 45) = true) : RelA s.data.toList (.int .i64 i) (.int .u32 (bits .or .u32 (m : Int) (p : Int))) :=
  ⟨k + 1, m ||| p, by omega, by rw [hi], by rw [or_val m p hm hpl], or_lt m p hm hpl, by rw [kinds_yes _ _ (by rw [sget s k hs]; exact is45 h), he, hp]⟩
theorem relA_no {s : ByteArray} {k m : Nat} {i : Int} (hk : k < 4) (hs : k < s.size) (hi : i = ((k + 1 : Nat) : Int)) (hm : m < 4294967296) (he : m = Pl.kindsR s.data.toList k)
    (h : ((s[k].toNat : Int) != 45) = false) : RelA s.data.toList (.int .i64 i) (.int .u32 (m : Int)) :=
  ⟨k + 1, m, by omega, by rw [hi], rfl, hm, by rw [kinds_no _ _ (by rw [sget s k hs]; exact not45 h), he]⟩
theorem relB_yes {s : ByteArray} {k m p : Nat} {i : Int} (hk : k < 9) (hs : 4 + k < s.size) (hi : i = ((k + 1 : Nat) : Int)) (hm : m < 4294967296) (he : m = Pl.rightsR s.data.toList (Pl.kindsR s.data.toList 4) k) (hp : p = 2 ^ (8 - k)) (hpl : p < 4294967296)
    (h : ((s[4 + k].toNat : Int) != 45) = true) : RelB s.data.toList (.int .i64 i) (.int .u32 (bits .or .u32 (m : Int) (p : Int))) :=
  ⟨k + 1, m ||| p, by omega, by rw [hi], by rw [or_val m p hm hpl], or_lt m p hm hpl, by rw [rights_yes _ _ _ (by rw [sget s _ hs]; exact is45 h), he, hp]⟩
theorem relB_no {s : ByteArray} {k m : Nat} {i : Int} (hk : k < 9) (hs : 4 + k < s.size) (hi : i = ((k + 1 : Nat) : Int)) (hm : m < 4294967296) (he : m = Pl.rightsR s.data.toList (Pl.kindsR s.data.toList 4) k)
    (h : ((s[4 + k].toNat : Int) != 45) = false) : RelB s.data.toList (.int .i64 i) (.int .u32 (m : Int)) :=
  ⟨k + 1, m, by omega, by rw [hi], rfl, hm, by rw [rights_no _ _ _ (by rw [sget s _ hs]; exact not45 h), he]⟩

theorem relC_step {s : ByteArray} {N k x : Nat} {b : UInt8} {i y : Int} (hk : k < N) (hN : N + 14 = s.size) (hb : b = s[14 + k]'(by omega)) (hi : i = ((k + 1 : Nat) : Int)) (_hx : x < 4294967296) (he : x = Pl.foldR ((s.data.toList.drop 14).take k))
    (hy : y = ((x * 16 % 4294967296 ||| Pl.hexv b % 16 : Nat) : Int)) : RelC s.data.toList N (.int .i64 i) (.int .u32 y) := by
  have hl : k < (s.data.toList.drop 14).length := by
    have : s.data.toList.length = s.size := by simp
    rw [List.length_drop]
    omega
  have ht : (s.data.toList.drop 14).take (k + 1) = (s.data.toList.drop 14).take k ++ [b] := by
    rw [List.take_succ_eq_append_getElem hl, hb]
    congr 2
    rw [List.getElem_drop]
    rfl
  refine ⟨k + 1, _, by omega, by rw [hi], by rw [hy], ?_, by rw [ht, Pl.foldR_snoc, ← he]⟩
  exact or_lt _ _ (Nat.mod_lt _ (by omega)) (by have := Nat.mod_lt (Pl.hexv b) (show 0 < 16 by omega); omega)
theorem and15i (y : Nat) (hy : y < 4294967296) : bits .and .u32 (y : Int) 15 = ((y % 16 : Nat) : Int) := and15 y hy
theorem valC (x y : Nat) (hy : y < 4294967296) : bits .or .u32 ((x : Int) * 16 % 4294967296) (bits .and .u32 (y : Int) 15) = ((x * 16 % 4294967296 ||| y % 16 : Nat) : Int) := by
  rw [and15i y hy, show (x : Int) * 16 % 4294967296 = ((x * 16 % 4294967296 : Nat) : Int) by simp]
  exact or_val _ _ (Nat.mod_lt _ (by omega)) (by have := Nat.mod_lt y (show 0 < 16 by omega); omega)
theorem valDig (x : Nat) (b : UInt8) (h1 : 48 ≤ b.toNat) (h2 : b.toNat ≤ 57) : bits .or .u32 ((x : Int) * 16 % 4294967296) (bits .and .u32 ((b.toNat : Int) - 48) 15) = ((x * 16 % 4294967296 ||| Pl.hexv b % 16 : Nat) : Int) := by
  have e : Pl.hexv b = b.toNat - 48 := by simp [Pl.hexv, h1, h2]
  rw [e, show (b.toNat : Int) - 48 = ((b.toNat - 48 : Nat) : Int) by omega]
  exact valC x _ (by omega)
theorem valLet (x : Nat) (b : UInt8) (h : ¬ (48 ≤ b.toNat ∧ b.toNat ≤ 57)) : bits .or .u32 ((x : Int) * 16 % 4294967296) (bits .and .u32 (((b.toNat : Int) - 97) % 256 + 10) 15) = ((x * 16 % 4294967296 ||| Pl.hexv b % 16 : Nat) : Int) := by
  have e : Pl.hexv b = (b.toNat + 159) % 256 + 10 := by simp only [Pl.hexv]; rw [if_neg h]
  have := b.toNat_lt
  rw [e, show ((b.toNat : Int) - 97) % 256 + 10 = (((b.toNat + 159) % 256 + 10 : Nat) : Int) by omega]
  exact valC x _ (by omega)

theorem toList_data (s : ByteArray) : s.toList = s.data.toList := ByteArray.toList_eq s
theorem ret_bad {s : ByteArray} (h : (!Pl.modeL (Pl.numR s.data.toList) == s.toList) = true) (hl : ¬ (s.data.toList.length < 13 ∨ 22 < s.data.toList.length)) :
    Ending.returned (.tuple #[.int .u32 0, .int .i64 21]) = Ending.returned (.tuple #[.int .u32 ((Pl.parse s.data.toList).1 : Int), .int .i64 ((Pl.parse s.data.toList).2 : Int)]) := by
  rw [toList_data] at h
  have hp : Pl.parse s.data.toList = (0, 21) := by
    unfold Pl.parse
    rw [if_neg hl, if_neg (by simpa using h)]
  rw [hp]; rfl
theorem ret_good {s : ByteArray} {z : Nat} (hz : z = Pl.numR s.data.toList) (h : (!Pl.modeL z == s.toList) = false) (hl : ¬ (s.data.toList.length < 13 ∨ 22 < s.data.toList.length)) :
    Ending.returned (.tuple #[.int .u32 (z : Int), .int .i64 0]) = Ending.returned (.tuple #[.int .u32 ((Pl.parse s.data.toList).1 : Int), .int .i64 ((Pl.parse s.data.toList).2 : Int)]) := by
  rw [toList_data] at h
  have hp : Pl.parse s.data.toList = (z, 0) := by
    unfold Pl.parse
    rw [if_neg hl, ← hz, if_pos (by simpa using h)]
  rw [hp]; rfl
set_option maxRecDepth 100000 in
set_option maxHeartbeats 1000000 in
theorem parse_long (s : ByteArray) (w : World) (h1 : 13 ≤ s.size) (h2 : s.size ≤ 22) :
    Calls Tryz.prog 46 #[.string s] w fun e w' => e = .returned (.tuple #[.int .u32 ((Pl.parse s.data.toList).1 : Int), .int .i64 ((Pl.parse s.data.toList).2 : Int)]) ∧ Below w.heap.size w w' := by
  go_enter Tryz.func46, Tryz.ntmps46
  go_wp2_with fail
  go_loop [22, 4] (fun i m => RelA s.data.toList i m) (fun i _ => 4 - (intOf i).toNat)
  case atStart => exact ⟨0, 0, by omega, rfl, rfl, by omega, rfl⟩
  case round =>
    obtain ⟨k, m, hk, rfl, rfl, hm, hme⟩ := hrel
    have HM := Lib.hid hme
    clear hme
    rcases Nat.lt_or_ge k 4 with hlt | hge
    · rcases (show k = 0 ∨ k = 1 ∨ k = 2 ∨ k = 3 by omega) with rfl | rfl | rfl | rfl
      · go_wp2_with fail
        · exact ⟨relA_yes (k := 0) (p := 2147483648) (by omega) (by omega) (by rfl) hm HM.out (by rfl) (by omega) (by assumption), by simp [intOf]⟩
        · exact ⟨relA_no (k := 0) (by omega) (by omega) (by rfl) hm HM.out (by assumption), by simp [intOf]⟩
      · go_wp2_with fail
        · exact ⟨relA_yes (k := 1) (p := 1073741824) (by omega) (by omega) (by rfl) hm HM.out (by rfl) (by omega) (by assumption), by simp [intOf]⟩
        · exact ⟨relA_no (k := 1) (by omega) (by omega) (by rfl) hm HM.out (by assumption), by simp [intOf]⟩
      · go_wp2_with fail
        · exact ⟨relA_yes (k := 2) (p := 536870912) (by omega) (by omega) (by rfl) hm HM.out (by rfl) (by omega) (by assumption), by simp [intOf]⟩
        · exact ⟨relA_no (k := 2) (by omega) (by omega) (by rfl) hm HM.out (by assumption), by simp [intOf]⟩
      · go_wp2_with fail
        · exact ⟨relA_yes (k := 3) (p := 67108864) (by omega) (by omega) (by rfl) hm HM.out (by rfl) (by omega) (by assumption), by simp [intOf]⟩
        · exact ⟨relA_no (k := 3) (by omega) (by omega) (by rfl) hm HM.out (by assumption), by simp [intOf]⟩
    · obtain rfl : k = 4 := by omega
      go_wp2_with fail
      go_loop [35, 4] (fun i m => RelB s.data.toList i m) (fun i _ => 9 - (intOf i).toNat)
      case atStart => exact ⟨0, m, by omega, rfl, rfl, hm, HM.out⟩
      case round =>
        clear hm HM
        obtain ⟨k, m, hk, rfl, rfl, hm, hme⟩ := hrel
        have HM := Lib.hid hme
        clear hme
        rcases Nat.lt_or_ge k 9 with hlt | hge
        · rcases (show k = 0 ∨ k = 1 ∨ k = 2 ∨ k = 3 ∨ k = 4 ∨ k = 5 ∨ k = 6 ∨ k = 7 ∨ k = 8 by omega) with rfl | rfl | rfl | rfl | rfl | rfl | rfl | rfl | rfl
          · go_wp2_with fail
            · exact ⟨relB_yes (k := 0) (p := 256) (by omega) (by omega) (by rfl) hm HM.out (by rfl) (by omega) (by assumption), by simp [intOf]⟩
            · exact ⟨relB_no (k := 0) (by omega) (by omega) (by rfl) hm HM.out (by assumption), by simp [intOf]⟩
          · go_wp2_with fail
            · exact ⟨relB_yes (k := 1) (p := 128) (by omega) (by omega) (by rfl) hm HM.out (by rfl) (by omega) (by assumption), by simp [intOf]⟩
            · exact ⟨relB_no (k := 1) (by omega) (by omega) (by rfl) hm HM.out (by assumption), by simp [intOf]⟩
          · go_wp2_with fail
            · exact ⟨relB_yes (k := 2) (p := 64) (by omega) (by omega) (by rfl) hm HM.out (by rfl) (by omega) (by assumption), by simp [intOf]⟩
            · exact ⟨relB_no (k := 2) (by omega) (by omega) (by rfl) hm HM.out (by assumption), by simp [intOf]⟩
          · go_wp2_with fail
            · exact ⟨relB_yes (k := 3) (p := 32) (by omega) (by omega) (by rfl) hm HM.out (by rfl) (by omega) (by assumption), by simp [intOf]⟩
            · exact ⟨relB_no (k := 3) (by omega) (by omega) (by rfl) hm HM.out (by assumption), by simp [intOf]⟩
          · go_wp2_with fail
            · exact ⟨relB_yes (k := 4) (p := 16) (by omega) (by omega) (by rfl) hm HM.out (by rfl) (by omega) (by assumption), by simp [intOf]⟩
            · exact ⟨relB_no (k := 4) (by omega) (by omega) (by rfl) hm HM.out (by assumption), by simp [intOf]⟩
          · go_wp2_with fail
            · exact ⟨relB_yes (k := 5) (p := 8) (by omega) (by omega) (by rfl) hm HM.out (by rfl) (by omega) (by assumption), by simp [intOf]⟩
            · exact ⟨relB_no (k := 5) (by omega) (by omega) (by rfl) hm HM.out (by assumption), by simp [intOf]⟩
          · go_wp2_with fail
            · exact ⟨relB_yes (k := 6) (p := 4) (by omega) (by omega) (by rfl) hm HM.out (by rfl) (by omega) (by assumption), by simp [intOf]⟩
            · exact ⟨relB_no (k := 6) (by omega) (by omega) (by rfl) hm HM.out (by assumption), by simp [intOf]⟩
          · go_wp2_with fail
            · exact ⟨relB_yes (k := 7) (p := 2) (by omega) (by omega) (by rfl) hm HM.out (by rfl) (by omega) (by assumption), by simp [intOf]⟩
            · exact ⟨relB_no (k := 7) (by omega) (by omega) (by rfl) hm HM.out (by assumption), by simp [intOf]⟩
          · go_wp2_with fail
            · exact ⟨relB_yes (k := 8) (p := 1) (by omega) (by omega) (by rfl) hm HM.out (by rfl) (by omega) (by assumption), by simp [intOf]⟩
            · exact ⟨relB_no (k := 8) (by omega) (by omega) (by rfl) hm HM.out (by assumption), by simp [intOf]⟩
        · obtain rfl : k = 9 := by omega
          by_cases h14 : 14 < s.size
          · obtain ⟨N, hN⟩ : ∃ N, N + 14 = s.size := ⟨s.size - 14, by omega⟩
            obtain ⟨cap, W2, hcv, hb2, hc2⟩ := conv_tail s w (.cells kindsA 29) N hN
            have HC2 := Lib.hid hc2
            have HN := Lib.hid hN
            have hN2 : 1 ≤ N ∧ N ≤ 8 := by omega
            obtain ⟨hN2, hN3⟩ := hN2
            clear hc2 hN
            unfold kindsA at hcv
            go_wp2_with fail
            clear hcv
            go_loop [56, 8] (fun i m => RelC s.data.toList N i m) (fun i _ => N - (intOf i).toNat)
            case atStart => exact ⟨0, 0, by omega, rfl, rfl, by omega, rfl⟩
            case round =>
              obtain ⟨k, x, hk, rfl, rfl, hx, hxe⟩ := hrel
              have HX := Lib.hid hxe
              clear hxe
              rcases Nat.lt_or_ge k N with hlt | hge
              · obtain ⟨b, hb⟩ : ∃ b, b = s[14 + k]'(by have := HN.out; omega) := ⟨_, rfl⟩
                have hcb : W2.cell? ⟨w.heap.size + 1, k, none⟩ = some (.int .u8 (b.toNat : Int)) := by rw [hb]; exact HC2.out k _
                have HB := Lib.hid hb
                have hb256 : b.toNat < 256 := b.toNat_lt
                clear hb
                by_cases hd : 48 ≤ b.toNat ∧ b.toNat ≤ 57
                · obtain ⟨hd1, hd2⟩ := hd
                  go_wp2_with fail
                  exact ⟨relC_step hlt HN.out HB.out (by rfl) hx HX.out (valDig x b hd1 hd2), by simp [intOf]; omega⟩
                · by_cases hd1 : 48 ≤ b.toNat
                  · have hd2 : ¬ b.toNat ≤ 57 := by omega
                    clear hd
                    go_wp2_with fail
                    exact ⟨relC_step hlt HN.out HB.out (by rfl) hx HX.out (valLet x b (by omega)), by simp [intOf]; omega⟩
                  · clear hd
                    go_wp2_with fail
                    exact ⟨relC_step hlt HN.out HB.out (by rfl) hx HX.out (valLet x b (by omega)), by simp [intOf]; omega⟩
              · obtain rfl : k = N := by omega
                obtain ⟨z, hz⟩ : ∃ z, z = Pl.numR s.data.toList := ⟨_, rfl⟩
                have hzl : z < 4294967296 := by rw [hz]; exact Pl.numR_lt _
                have hl : s.data.toList.length = s.size := by simp
                have hzv : bits .or .u32 (m : Int) (bits .andNot .u32 (x : Int) 3825205759) = (z : Int) := by
                  rw [andNot_rest x hx, or_val m _ hm (Pl.restOf_lt x), hz, HM.out, HX.out]
                  unfold Pl.numR Pl.restOf
                  rw [if_pos (by omega), List.take_of_length_le (by rw [List.length_drop]; have := HN.out; omega)]
                have HZ := Lib.hid hz
                clear hz hl
                clear HC2 HM HX hm hx
                go_wp2_with (go_at_call 44; refine (mode_any z hzl _).mono ?_; rintro e w1 ⟨rfl, hb1⟩)
                · have ht : (!Pl.modeL z == s.toList) = true := by assumption
                  go_ret2
                  exact ⟨ret_bad (HZ.out ▸ ht) (by simp; omega), hb2.trans (hb1.mono hb2.size)⟩
                · have ht : (!Pl.modeL z == s.toList) = false := by assumption
                  go_ret2
                  exact ⟨ret_good HZ.out ht (by simp; omega), hb2.trans (hb1.mono hb2.size)⟩
          · obtain ⟨z, hz⟩ : ∃ z, z = Pl.numR s.data.toList := ⟨_, rfl⟩
            have hzl : z < 4294967296 := by rw [hz]; exact Pl.numR_lt _
            have hl : s.data.toList.length = s.size := by simp
            obtain rfl : m = z := by
              rw [hz, HM.out]
              unfold Pl.numR
              rw [if_neg (by omega)]
            have HZ := Lib.hid hz
            clear hz hl HM hm
            go_wp2_with (go_at_call 44; refine (mode_any m hzl _).mono ?_; rintro e w1 ⟨rfl, hb1⟩)
            · have ht : (!Pl.modeL m == s.toList) = true := by assumption
              go_ret2
              exact ⟨ret_bad (HZ.out ▸ ht) (by simp; omega), ((Below.refl _ _).alloc (Nat.le_refl _) _).trans (hb1.mono (by simp))⟩
            · have ht : (!Pl.modeL m == s.toList) = false := by assumption
              go_ret2
              exact ⟨ret_good HZ.out ht (by simp; omega), ((Below.refl _ _).alloc (Nat.le_refl _) _).trans (hb1.mono (by simp))⟩

theorem parse_short (s : ByteArray) (w : World) (hs : s.size ≤ maxLen) (h : s.size < 13 ∨ 22 < s.size) :
    Calls Tryz.prog 46 #[.string s] w fun e w' => e = .returned (.tuple #[.int .u32 0, .int .i64 21]) ∧ Below w.heap.size w w' := by
  unfold maxLen at hs
  rcases h with h | h
  · go_enter Tryz.func46, Tryz.ntmps46
    go_wp2_with fail
    go_ret2
    exact ⟨rfl, Below.refl _ _⟩
  · have h' : ¬ s.size < 13 := by omega
    go_enter Tryz.func46, Tryz.ntmps46
    go_wp2_with fail
    go_ret2
    exact ⟨rfl, Below.refl _ _⟩

theorem parse_any (s : ByteArray) (w : World) (hs : s.size ≤ maxLen) :
    Calls Tryz.prog 46 #[.string s] w fun e w' => e = .returned (.tuple #[.int .u32 ((Pl.parse s.data.toList).1 : Int), .int .i64 ((Pl.parse s.data.toList).2 : Int)]) ∧ Below w.heap.size w w' := by
  by_cases h : s.size < 13 ∨ 22 < s.size
  · have hp : Pl.parse s.data.toList = (0, 21) := by
      unfold Pl.parse
      rw [if_pos (by simpa using h)]
    rw [hp]
    exact parse_short s w hs h
  · exact parse_long s w (by omega) (by omega)

end Go.Proofs.YtnpokdbpmnkbjaaGreatDoor.Mo
