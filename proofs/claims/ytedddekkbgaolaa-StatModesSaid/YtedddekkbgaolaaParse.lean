/- The walk of stat.ParseMode: it answers what Pl.parse says of the text; nothing that was there before the call has turned. -/
import Derived.Test.YtedddekkbgaolaaMode
namespace Go.Proofs.Ytedddekkbgaolaa
open Go.RowKit

theorem bytes_of (w : World) (t : ByteArray) (N : Nat) (hz : t.size = N) : ∃ cap W2, (convert 9 28 (.string t)).run Try.prog w = .ok (.slice (some ⟨w.heap.size, 0, none⟩) N cap) W2 ∧
    Below w.heap.size w W2 ∧ ∀ j (h : j < t.size), W2.cell? ⟨w.heap.size, j, none⟩ = some (.int .u8 (t[j].toNat : Int)) := by
  have h := run_bytes_of_string (P := Try.prog) w 9 28 5 t Try.underlying9 Try.underlying28 Try.underlying5
  rw [hz] at h
  generalize grownCap w N 0 5 = cap at h
  refine ⟨cap, _, h, ((Below.refl _ _).drew).alloc (Nat.le_refl _) _, fun j hj => ?_⟩
  have hc := World.cell?_alloc_mark w.drew (bytesRow t cap) 5 ((bytesRow t cap).size, (bytesRow t cap).size + 1) j
  rw [show w.drew.heap.size = w.heap.size from rfl] at hc
  rw [hc, bytesRow_at _ _ _ hj]
  rfl
theorem conv_tail (s : ByteArray) (w : World) (C : Obj) (N : Nat) (hN : N + 14 = s.size) : ∃ cap W2, (convert 9 28 (.string (s.extract 14 s.size))).run Try.prog (w.alloc C) = .ok (.slice (some ⟨w.heap.size + 1, 0, none⟩) N cap) W2 ∧
    Below w.heap.size w W2 ∧ ∀ j (h : 14 + j < s.size), W2.cell? ⟨w.heap.size + 1, j, none⟩ = some (.int .u8 (s[14 + j].toNat : Int)) := by
  have hz : (s.extract 14 s.size).size = N := by simp; omega
  obtain ⟨cap, W2, h1, h2, h3⟩ := bytes_of (w.alloc C) (s.extract 14 s.size) N hz
  have hz1 : (w.alloc C).heap.size = w.heap.size + 1 := by simp
  rw [hz1] at h1 h2 h3
  refine ⟨cap, W2, h1, ((Below.refl _ _).alloc (Nat.le_refl _) _).trans (h2.mono (by omega)), fun j hj => ?_⟩
  have hj2 : j < (s.extract 14 s.size).size := by omega
  have e : (s.extract 14 s.size)[j] = s[14 + j] := ByteArray.getElem_extract ..
  rw [h3 j hj2, e]


theorem sget (s : ByteArray) (k : Nat) (h : k < s.size) : s.data.toList.getD k 45 = s[k] := by
  have h' : k < s.data.toList.length := by simpa using h
  rw [List.getD_eq_getElem?_getD, List.getElem?_eq_getElem h']
  rfl
theorem or_val (m p : Nat) (hm : m < 4294967296) (hp : p < 4294967296) : bits .or .u32 (m : Int) (p : Int) = ((m ||| p : Nat) : Int) := u32_or_nat m p hm hp
theorem or_lt (m p : Nat) (hm : m < 4294967296) (hp : p < 4294967296) : m ||| p < 4294967296 := Nat.or_lt_two_pow (n := 32) hm hp
theorem is45 {c : UInt8} (h : ((c.toNat : Int) != 45) = true) : c ≠ 45 := by rintro rfl; exact absurd h (by decide)
theorem not45 {c : UInt8} (h : ((c.toNat : Int) != 45) = false) : c = 45 := by
  have : (c.toNat : Int) = 45 := by simpa using h
  exact UInt8.toNat_inj.1 (by have h45 : (45 : UInt8).toNat = 45 := rfl; omega)
theorem kinds_yes (l : List UInt8) (k : Nat) (h : l.getD k 45 ≠ 45) : Pl.kindsR l (k + 1) = Pl.kindsR l k ||| [2147483648, 1073741824, 536870912, 67108864].getD k 0 := if_neg h
theorem kinds_no (l : List UInt8) (k : Nat) (h : l.getD k 45 = 45) : Pl.kindsR l (k + 1) = Pl.kindsR l k := if_pos h
theorem rights_yes (l : List UInt8) (m k : Nat) (h : l.getD (4 + k) 45 ≠ 45) : Pl.rightsR l m (k + 1) = Pl.rightsR l m k ||| 2 ^ (8 - k) := if_neg h
theorem rights_no (l : List UInt8) (m k : Nat) (h : l.getD (4 + k) 45 = 45) : Pl.rightsR l m (k + 1) = Pl.rightsR l m k := if_pos h

def RelA (l : List UInt8) (i v : Value) : Prop := ∃ k m : Nat, k ≤ 4 ∧ i = .int .i64 k ∧ v = .int .u32 m ∧ m < 4294967296 ∧ m = Pl.kindsR l k
def RelB (l : List UInt8) (i v : Value) : Prop := ∃ k m : Nat, k ≤ 9 ∧ i = .int .i64 k ∧ v = .int .u32 m ∧ m < 4294967296 ∧ m = Pl.rightsR l (Pl.kindsR l 4) k
def RelC (l : List UInt8) (N : Nat) (i v : Value) : Prop := ∃ k x : Nat, k ≤ N ∧ i = .int .i64 k ∧ v = .int .u32 x ∧ x < 4294967296 ∧ x = Pl.foldR ((l.drop 14).take k)

theorem relA_yes {s : ByteArray} {k m p : Nat} {i : Int} (hk : k < 4) (hs : k < s.size) (hi : i = ((k + 1 : Nat) : Int)) (hm : m < 4294967296) (he : m = Pl.kindsR s.data.toList k) (hp : p = [2147483648, 1073741824, 536870912, 67108864].getD k 0) (hpl : p < 4294967296)
    (h : ((s[k].toNat : Int) != 45) = true) : RelA s.data.toList (.int .i64 i) (.int .u32 (bits .or .u32 (m : Int) (p : Int))) :=
  ⟨k + 1, m ||| p, by omega, by rw [hi], by rw [or_val m p hm hpl], or_lt m p hm hpl, by rw [kinds_yes _ _ (by rw [sget s k hs]; exact is45 h), he, hp]⟩
theorem relA_no {s : ByteArray} {k m : Nat} {i : Int} (hk : k < 4) (hs : k < s.size) (hi : i = ((k + 1 : Nat) : Int)) (hm : m < 4294967296) (he : m = Pl.kindsR s.data.toList k)
    (h : ((s[k].toNat : Int) != 45) = false) : RelA s.data.toList (.int .i64 i) (.int .u32 (m : Int)) :=
  ⟨k + 1, m, by omega, by rw [hi], rfl, hm, by rw [kinds_no _ _ (by rw [sget s k hs]; exact not45 h), he]⟩
theorem relB_yes {s : ByteArray} {k m p : Nat} {i : Int} (hk : k < 9) (hs : 4 + k < s.size) (hi : i = ((k + 1 : Nat) : Int)) (hm : m < 4294967296) (he : m = Pl.rightsR s.data.toList (Pl.kindsR s.data.toList 4) k) (hp : p = 2 ^ (8 - k)) (hpl : p < 4294967296)
    (h : ((s[4 + k].toNat : Int) != 45) = true) : RelB s.data.toList (.int .i64 i) (.int .u32 (bits .or .u32 (m : Int) (p : Int))) :=
  ⟨k + 1, m ||| p, by omega, by rw [hi], by rw [or_val m p hm hpl], or_lt m p hm hpl, by rw [rights_yes _ _ _ (by rw [sget s _ hs]; exact is45 h), he, hp]⟩
theorem relB_no {s : ByteArray} {k m : Nat} {i : Int} (hk : k < 9) (hs : 4 + k < s.size) (hi : i = ((k + 1 : Nat) : Int)) (hm : m < 4294967296) (he : m = Pl.rightsR s.data.toList (Pl.kindsR s.data.toList 4) k)
    (h : ((s[4 + k].toNat : Int) != 45) = false) : RelB s.data.toList (.int .i64 i) (.int .u32 (m : Int)) :=
  ⟨k + 1, m, by omega, by rw [hi], rfl, hm, by rw [rights_no _ _ _ (by rw [sget s _ hs]; exact not45 h), he]⟩

theorem relC_step {s : ByteArray} {N k x : Nat} {b : UInt8} {i y : Int} (hk : k < N) (hN : N + 14 = s.size) (hb : b = s[14 + k]'(by omega)) (hi : i = ((k + 1 : Nat) : Int)) (_hx : x < 4294967296) (he : x = Pl.foldR ((s.data.toList.drop 14).take k))
    (hy : y = ((x * 16 % 4294967296 ||| Pl.hexv b % 16 : Nat) : Int)) : RelC s.data.toList N (.int .i64 i) (.int .u32 y) := by
  have hl : k < (s.data.toList.drop 14).length := by
    have : s.data.toList.length = s.size := by simp
    rw [List.length_drop]
    omega
  have ht : (s.data.toList.drop 14).take (k + 1) = (s.data.toList.drop 14).take k ++ [b] := by
    rw [List.take_succ_eq_append_getElem hl, hb]
    congr 2
    rw [List.getElem_drop]
    rfl
  refine ⟨k + 1, _, by omega, by rw [hi], by rw [hy], ?_, by rw [ht, Pl.foldR_snoc, ← he]⟩
  exact or_lt _ _ (Nat.mod_lt _ (by omega)) (by have := Nat.mod_lt (Pl.hexv b) (show 0 < 16 by omega); omega)
theorem and15i (y : Nat) (hy : y < 4294967296) : bits .and .u32 (y : Int) 15 = ((y % 16 : Nat) : Int) := and15 y hy
theorem valC (x y : Nat) (hy : y < 4294967296) : bits .or .u32 ((x : Int) * 16 % 4294967296) (bits .and .u32 (y : Int) 15) = ((x * 16 % 4294967296 ||| y % 16 : Nat) : Int) := by
  rw [and15i y hy, show (x : Int) * 16 % 4294967296 = ((x * 16 % 4294967296 : Nat) : Int) by simp]
  exact or_val _ _ (Nat.mod_lt _ (by omega)) (by have := Nat.mod_lt y (show 0 < 16 by omega); omega)
theorem valDig (x : Nat) (b : UInt8) (h1 : 48 ≤ b.toNat) (h2 : b.toNat ≤ 57) : bits .or .u32 ((x : Int) * 16 % 4294967296) (bits .and .u32 ((b.toNat : Int) - 48) 15) = ((x * 16 % 4294967296 ||| Pl.hexv b % 16 : Nat) : Int) := by
  have e : Pl.hexv b = b.toNat - 48 := by simp [Pl.hexv, h1, h2]
  rw [e, show (b.toNat : Int) - 48 = ((b.toNat - 48 : Nat) : Int) by omega]
  exact valC x _ (by omega)
theorem valLet (x : Nat) (b : UInt8) (h : ¬ (48 ≤ b.toNat ∧ b.toNat ≤ 57)) : bits .or .u32 ((x : Int) * 16 % 4294967296) (bits .and .u32 (((b.toNat : Int) - 97) % 256 + 10) 15) = ((x * 16 % 4294967296 ||| Pl.hexv b % 16 : Nat) : Int) := by
  have e : Pl.hexv b = (b.toNat + 159) % 256 + 10 := by simp only [Pl.hexv]; rw [if_neg h]
  have := b.toNat_lt
  rw [e, show ((b.toNat : Int) - 97) % 256 + 10 = (((b.toNat + 159) % 256 + 10 : Nat) : Int) by omega]
  exact valC x _ (by omega)

theorem toList_data (s : ByteArray) : s.toList = s.data.toList := ByteArray.toList_eq s
theorem ret_bad {s : ByteArray} (h : (!Pl.modeL (Pl.numR s.data.toList) == s.toList) = true) (hl : ¬ (s.data.toList.length < 13 ∨ 22 < s.data.toList.length)) :
    Ending.returned (.tuple #[.int .u32 0, .int .i64 21]) = Ending.returned (.tuple #[.int .u32 ((Pl.parse s.data.toList).1 : Int), .int .i64 ((Pl.parse s.data.toList).2 : Int)]) := by
  rw [toList_data] at h
  have hp : Pl.parse s.data.toList = (0, 21) := by
    unfold Pl.parse
    rw [if_neg hl, if_neg (by simpa using h)]
  rw [hp]; rfl
theorem ret_good {s : ByteArray} {z : Nat} (hz : z = Pl.numR s.data.toList) (h : (!Pl.modeL z == s.toList) = false) (hl : ¬ (s.data.toList.length < 13 ∨ 22 < s.data.toList.length)) :
    Ending.returned (.tuple #[.int .u32 (z : Int), .int .i64 0]) = Ending.returned (.tuple #[.int .u32 ((Pl.parse s.data.toList).1 : Int), .int .i64 ((Pl.parse s.data.toList).2 : Int)]) := by
  rw [toList_data] at h
  have hp : Pl.parse s.data.toList = (z, 0) := by
    unfold Pl.parse
    rw [if_neg hl, ← hz, if_pos (by simpa using h)]
  rw [hp]; rfl
set_option maxHeartbeats 1000000 in
theorem parse_long (s : ByteArray) (w : World) (h1 : 13 ≤ s.size) (h2 : s.size ≤ 22) :
    Calls Try.prog 5 #[.string s] w fun e w' => e = .returned (.tuple #[.int .u32 ((Pl.parse s.data.toList).1 : Int), .int .i64 ((Pl.parse s.data.toList).2 : Int)]) ∧ Below w.heap.size w w' := by
  go_enter Try.func5, Try.ntmps5
  go_wp2_with fail
  go_loop [22, 4] (fun i m => RelA s.data.toList i m) (fun i _ => 4 - (intOf i).toNat)
  case atStart => exact ⟨0, 0, by omega, rfl, rfl, by omega, rfl⟩
  case round =>
    obtain ⟨k, m, hk, rfl, rfl, hm, hme⟩ := hrel
    have HM := Lib.hid hme
    clear hme
    rcases Nat.lt_or_ge k 4 with hlt | hge
    · rcases (show k = 0 ∨ k = 1 ∨ k = 2 ∨ k = 3 by omega) with rfl | rfl | rfl | rfl
      · go_wp2_with fail
        · exact ⟨relA_yes (k := 0) (p := 2147483648) (by omega) (by omega) (by rfl) hm HM.out (by rfl) (by omega) (by assumption), by simp [intOf]⟩
        · exact ⟨relA_no (k := 0) (by omega) (by omega) (by rfl) hm HM.out (by assumption), by simp [intOf]⟩
      · go_wp2_with fail
        · exact ⟨relA_yes (k := 1) (p := 1073741824) (by omega) (by omega) (by rfl) hm HM.out (by rfl) (by omega) (by assumption), by simp [intOf]⟩
        · exact ⟨relA_no (k := 1) (by omega) (by omega) (by rfl) hm HM.out (by assumption), by simp [intOf]⟩
      · go_wp2_with fail
        · exact ⟨relA_yes (k := 2) (p := 536870912) (by omega) (by omega) (by rfl) hm HM.out (by rfl) (by omega) (by assumption), by simp [intOf]⟩
        · exact ⟨relA_no (k := 2) (by omega) (by omega) (by rfl) hm HM.out (by assumption), by simp [intOf]⟩
      · go_wp2_with fail
        · exact ⟨relA_yes (k := 3) (p := 67108864) (by omega) (by omega) (by rfl) hm HM.out (by rfl) (by omega) (by assumption), by simp [intOf]⟩
        · exact ⟨relA_no (k := 3) (by omega) (by omega) (by rfl) hm HM.out (by assumption), by simp [intOf]⟩
    · obtain rfl : k = 4 := by omega
      go_wp2_with fail
      go_loop [35, 4] (fun i m => RelB s.data.toList i m) (fun i _ => 9 - (intOf i).toNat)
      case atStart => exact ⟨0, m, by omega, rfl, rfl, hm, HM.out⟩
      case round =>
        clear hm HM
        obtain ⟨k, m, hk, rfl, rfl, hm, hme⟩ := hrel
        have HM := Lib.hid hme
        clear hme
        rcases Nat.lt_or_ge k 9 with hlt | hge
        · rcases (show k = 0 ∨ k = 1 ∨ k = 2 ∨ k = 3 ∨ k = 4 ∨ k = 5 ∨ k = 6 ∨ k = 7 ∨ k = 8 by omega) with rfl | rfl | rfl | rfl | rfl | rfl | rfl | rfl | rfl
          · go_wp2_with fail
            · exact ⟨relB_yes (k := 0) (p := 256) (by omega) (by omega) (by rfl) hm HM.out (by rfl) (by omega) (by assumption), by simp [intOf]⟩
            · exact ⟨relB_no (k := 0) (by omega) (by omega) (by rfl) hm HM.out (by assumption), by simp [intOf]⟩
          · go_wp2_with fail
            · exact ⟨relB_yes (k := 1) (p := 128) (by omega) (by omega) (by rfl) hm HM.out (by rfl) (by omega) (by assumption), by simp [intOf]⟩
            · exact ⟨relB_no (k := 1) (by omega) (by omega) (by rfl) hm HM.out (by assumption), by simp [intOf]⟩
          · go_wp2_with fail
            · exact ⟨relB_yes (k := 2) (p := 64) (by omega) (by omega) (by rfl) hm HM.out (by rfl) (by omega) (by assumption), by simp [intOf]⟩
            · exact ⟨relB_no (k := 2) (by omega) (by omega) (by rfl) hm HM.out (by assumption), by simp [intOf]⟩
          · go_wp2_with fail
            · exact ⟨relB_yes (k := 3) (p := 32) (by omega) (by omega) (by rfl) hm HM.out (by rfl) (by omega) (by assumption), by simp [intOf]⟩
            · exact ⟨relB_no (k := 3) (by omega) (by omega) (by rfl) hm HM.out (by assumption), by simp [intOf]⟩
          · go_wp2_with fail
            · exact ⟨relB_yes (k := 4) (p := 16) (by omega) (by omega) (by rfl) hm HM.out (by rfl) (by omega) (by assumption), by simp [intOf]⟩
            · exact ⟨relB_no (k := 4) (by omega) (by omega) (by rfl) hm HM.out (by assumption), by simp [intOf]⟩
          · go_wp2_with fail
            · exact ⟨relB_yes (k := 5) (p := 8) (by omega) (by omega) (by rfl) hm HM.out (by rfl) (by omega) (by assumption), by simp [intOf]⟩
            · exact ⟨relB_no (k := 5) (by omega) (by omega) (by rfl) hm HM.out (by assumption), by simp [intOf]⟩
          · go_wp2_with fail
            · exact ⟨relB_yes (k := 6) (p := 4) (by omega) (by omega) (by rfl) hm HM.out (by rfl) (by omega) (by assumption), by simp [intOf]⟩
            · exact ⟨relB_no (k := 6) (by omega) (by omega) (by rfl) hm HM.out (by assumption), by simp [intOf]⟩
          · go_wp2_with fail
            · exact ⟨relB_yes (k := 7) (p := 2) (by omega) (by omega) (by rfl) hm HM.out (by rfl) (by omega) (by assumption), by simp [intOf]⟩
            · exact ⟨relB_no (k := 7) (by omega) (by omega) (by rfl) hm HM.out (by assumption), by simp [intOf]⟩
          · go_wp2_with fail
            · exact ⟨relB_yes (k := 8) (p := 1) (by omega) (by omega) (by rfl) hm HM.out (by rfl) (by omega) (by assumption), by simp [intOf]⟩
            · exact ⟨relB_no (k := 8) (by omega) (by omega) (by rfl) hm HM.out (by assumption), by simp [intOf]⟩
        · obtain rfl : k = 9 := by omega
          by_cases h14 : 14 < s.size
          · obtain ⟨N, hN⟩ : ∃ N, N + 14 = s.size := ⟨s.size - 14, by omega⟩
            obtain ⟨cap, W2, hcv, hb2, hc2⟩ := conv_tail s w (.cells kindsA 22) N hN
            have HC2 := Lib.hid hc2
            have HN := Lib.hid hN
            have hN2 : 1 ≤ N ∧ N ≤ 8 := by omega
            obtain ⟨hN2, hN3⟩ := hN2
            clear hc2 hN
            unfold kindsA at hcv
            go_wp2_with fail
            clear hcv
            go_loop [56, 8] (fun i m => RelC s.data.toList N i m) (fun i _ => N - (intOf i).toNat)
            case atStart => exact ⟨0, 0, by omega, rfl, rfl, by omega, rfl⟩
            case round =>
              obtain ⟨k, x, hk, rfl, rfl, hx, hxe⟩ := hrel
              have HX := Lib.hid hxe
              clear hxe
              rcases Nat.lt_or_ge k N with hlt | hge
              · obtain ⟨b, hb⟩ : ∃ b, b = s[14 + k]'(by have := HN.out; omega) := ⟨_, rfl⟩
                have hcb : W2.cell? ⟨w.heap.size + 1, k, none⟩ = some (.int .u8 (b.toNat : Int)) := by rw [hb]; exact HC2.out k _
                have HB := Lib.hid hb
                have hb256 : b.toNat < 256 := b.toNat_lt
                clear hb
                by_cases hd : 48 ≤ b.toNat ∧ b.toNat ≤ 57
                · obtain ⟨hd1, hd2⟩ := hd
                  go_wp2_with fail
                  exact ⟨relC_step hlt HN.out HB.out (by rfl) hx HX.out (valDig x b hd1 hd2), by simp [intOf]; omega⟩
                · by_cases hd1 : 48 ≤ b.toNat
                  · have hd2 : ¬ b.toNat ≤ 57 := by omega
                    clear hd
                    go_wp2_with fail
                    exact ⟨relC_step hlt HN.out HB.out (by rfl) hx HX.out (valLet x b (by omega)), by simp [intOf]; omega⟩
                  · clear hd
                    go_wp2_with fail
                    exact ⟨relC_step hlt HN.out HB.out (by rfl) hx HX.out (valLet x b (by omega)), by simp [intOf]; omega⟩
              · obtain rfl : k = N := by omega
                obtain ⟨z, hz⟩ : ∃ z, z = Pl.numR s.data.toList := ⟨_, rfl⟩
                have hzl : z < 4294967296 := by rw [hz]; exact Pl.numR_lt _
                have hl : s.data.toList.length = s.size := by simp
                have hzv : bits .or .u32 (m : Int) (bits .andNot .u32 (x : Int) 3825205759) = (z : Int) := by
                  rw [andNot_rest x hx, or_val m _ hm (Pl.restOf_lt x), hz, HM.out, HX.out]
                  unfold Pl.numR Pl.restOf
                  rw [if_pos (by omega), List.take_of_length_le (by rw [List.length_drop]; have := HN.out; omega)]
                have HZ := Lib.hid hz
                clear hz hl
                clear HC2 HM HX hm hx
                go_wp2_with (go_at_call 4; refine (mode_any z hzl _).mono ?_; rintro e w1 ⟨rfl, hb1⟩)
                · have ht : (!Pl.modeL z == s.toList) = true := by assumption
                  go_ret2
                  exact ⟨ret_bad (HZ.out ▸ ht) (by simp; omega), hb2.trans (hb1.mono hb2.size)⟩
                · have ht : (!Pl.modeL z == s.toList) = false := by assumption
                  go_ret2
                  exact ⟨ret_good HZ.out ht (by simp; omega), hb2.trans (hb1.mono hb2.size)⟩
          · obtain ⟨z, hz⟩ : ∃ z, z = Pl.numR s.data.toList := ⟨_, rfl⟩
            have hzl : z < 4294967296 := by rw [hz]; exact Pl.numR_lt _
            have hl : s.data.toList.length = s.size := by simp
            obtain rfl : m = z := by
              rw [hz, HM.out]
              unfold Pl.numR
              rw [if_neg (by omega)]
            have HZ := Lib.hid hz
            clear hz hl HM hm
            go_wp2_with (go_at_call 4; refine (mode_any m hzl _).mono ?_; rintro e w1 ⟨rfl, hb1⟩)
            · have ht : (!Pl.modeL m == s.toList) = true := by assumption
              go_ret2
              exact ⟨ret_bad (HZ.out ▸ ht) (by simp; omega), ((Below.refl _ _).alloc (Nat.le_refl _) _).trans (hb1.mono (by simp))⟩
            · have ht : (!Pl.modeL m == s.toList) = false := by assumption
              go_ret2
              exact ⟨ret_good HZ.out ht (by simp; omega), ((Below.refl _ _).alloc (Nat.le_refl _) _).trans (hb1.mono (by simp))⟩

theorem parse_short (s : ByteArray) (w : World) (hs : s.size ≤ maxLen) (h : s.size < 13 ∨ 22 < s.size) :
    Calls Try.prog 5 #[.string s] w fun e w' => e = .returned (.tuple #[.int .u32 0, .int .i64 21]) ∧ Below w.heap.size w w' := by
  unfold maxLen at hs
  rcases h with h | h
  · go_enter Try.func5, Try.ntmps5
    go_wp2_with fail
    go_ret2
    exact ⟨rfl, Below.refl _ _⟩
  · have h' : ¬ s.size < 13 := by omega
    go_enter Try.func5, Try.ntmps5
    go_wp2_with fail
    go_ret2
    exact ⟨rfl, Below.refl _ _⟩

theorem parse_any (s : ByteArray) (w : World) (hs : s.size ≤ maxLen) :
    Calls Try.prog 5 #[.string s] w fun e w' => e = .returned (.tuple #[.int .u32 ((Pl.parse s.data.toList).1 : Int), .int .i64 ((Pl.parse s.data.toList).2 : Int)]) ∧ Below w.heap.size w w' := by
  by_cases h : s.size < 13 ∨ 22 < s.size
  · have hp : Pl.parse s.data.toList = (0, 21) := by
      unfold Pl.parse
      rw [if_pos (by simpa using h)]
    rw [hp]
    exact parse_short s w hs h
  · exact parse_long s w (by omega) (by omega)

end Go.Proofs.Ytedddekkbgaolaa
