/- Small calls on entries: is it a directory, a group's name, the path's parts, may it be. -/
import Derived.Test.YtmcekhgmmocajaaDoorNl
import Derived.Test.YtmcekhgmmocajaaDoorTn
import Derived.Test.YtmcekhgmmocajaaDoorMo
import Derived.Test.YtmcekhgmmocajaaDoorCg
namespace Go.Proofs.YtmcekhgmmocajaaDoor
open Go.RowKit Me

/-- An entry as a value; vd: its bytes. -/
def entV (e : EntP) (vd : Value) : Value := .agg #[.string e.path, .int .u32 (e.mode : Int), .int .u32 (e.mtime : Int), .string e.gid, vd]
theorem isdir_any (e : EntP) (vd : Value) (w : World) (h : e.mode < 4294967296) :
    Calls Tryd.prog 33 #[entV e vd] w fun x w' => x = .returned (.bool (isDirN e.mode)) ∧ Mods [] w w' := by
  have H := Lib.hid (bits_dir e.mode h)
  unfold entV
  go_enter Tryd.func33, Tryd.ntmps33
  go_wp2_with fail
  go_ret
  exact ⟨by rw [H.out]; rfl, (Mods.refl _ _).alloc _⟩
theorem dir_any (m : Nat) (w : World) :
    Calls Tryd.prog 51 #[.int .u32 (m : Int)] w fun x w' => x = .returned (.bool (isDirN m)) ∧ Mods [] w w' := by
  have H := Lib.hid (show decide ((2147483648 : Int) ≤ (m : Int)) = isDirN m from decide_eq_decide.2 (by omega))
  go_enter Tryd.func51, Tryd.ntmps51
  go_wp2_with fail
  go_ret
  exact ⟨by rw [← H.out]; rfl, Mods.refl _ _⟩
def gidOk (s : ByteArray) : Bool := Tx.good s.data.toList && decide (s.size ≤ 32)
theorem goodgid_any (s : ByteArray) (w : World) (hs : s.size ≤ maxLen) (hT : Tabs w) :
    Calls Tryd.prog 34 #[.string s] w fun x w' => x = .returned (.bool (gidOk s)) ∧ Mods [] w w' := by
  have H := Lib.hid (good_any s w hs hT.u)
  have HQ := Lib.hid (show gidOk s = (Tx.good s.data.toList && decide (s.size ≤ 32)) from rfl)
  generalize gidOk s = q at *
  generalize Tx.good s.data.toList = g at *
  go_enter Tryd.func34, Tryd.ntmps34
  go_wp2_with fail
  refine H.out.mono ?_; rintro e w1 ⟨rfl, hb⟩
  have HB := Lib.hid (Mods.below hb [])
  clear hb
  cases g
  all_goals go_wp2_with fail
  all_goals go_ret
  all_goals (refine ⟨?_, HB.out⟩; rw [HQ.out])
  all_goals first | rfl | (simp; done) | (simp; omega)
/-- The parts of an entry's path, as the program cuts them. -/
def partsP (s : ByteArray) : List ByteArray := if s.toList == [46] then [] else pieces s
theorem parts_any (s : ByteArray) (w : World) (hs : s.size < 4294967281) (hT : Tabs w) :
    Calls Tryd.prog 35 #[.string s] w fun x w' => ∃ v, x = .returned v ∧ Rd w' v ((partsP s).map Value.string) ∧ Mods [] w w' := by
  obtain ⟨m, hm⟩ := hT.m
  have H := Lib.hid (Tryd.strings_Split s ⟨#[47]⟩ m w hs hm (by decide))
  have hl := pieces_length s
  rw [show Lib.splitB ⟨#[47]⟩ 0 (Lib.countB s ⟨#[47]⟩) s = pieces s from rfl, ← hl] at H
  have hcb := Lib.countB_le ⟨#[47]⟩ (by decide) _ s (Nat.le_refl _)
  have HQ := Lib.hid (show partsP s = if s.toList == [46] then [] else pieces s from rfl)
  have HL : Hid ((pieces s).length ≤ 4294967290) := Lib.hid (by omega)
  generalize partsP s = q at *
  generalize pieces s = P at *
  clear hl hcb
  cases hc : s.toList == [46]
  · have HQ2 : Hid (q = P) := Lib.hid (by have := HQ.out; rw [hc] at this; exact this)
    go_enter Tryd.func35, Tryd.ntmps35
    go_wp2_with fail
    refine H.out.mono ?_; rintro e w1 ⟨rfl, hb⟩
    obtain rfl := HQ2.out
    have HR : Hid (Rd w1 (.slice (some ⟨w.heap.size, 0, none⟩) q.length q.length) (q.map Value.string)) := Lib.hid (by
      refine ⟨_, q.length, by rw [List.length_map], by rw [List.length_map]; exact Nat.le_refl _, by have := HL.out; unfold maxLen; omega, fun j u hu => ⟨w.heap.size, 0, rfl, ?_⟩⟩
      rw [hb, cell_of_row _ _ _ _ _ _ (heap_alloc_new w _)]
      simpa using hu)
    have HM : Hid (Mods [] w w1) := Lib.hid (by rw [hb]; exact (Mods.refl _ _).alloc _)
    clear hb
    go_wp2_with fail
    go_ret
    exact ⟨_, rfl, HR.out, HM.out⟩
  · have HQ2 : Hid (q = []) := Lib.hid (by have := HQ.out; rw [hc] at this; exact this)
    go_enter Tryd.func35, Tryd.ntmps35
    go_wp2_with fail
    go_ret
    obtain rfl := HQ2.out
    exact ⟨_, rfl, ⟨none, 0, rfl, Nat.le_refl _, by unfold maxLen; omega, by simp⟩, Mods.refl _ _⟩
/-- May a path be an entry's? -/
def pathOk (s : ByteArray) : Bool := fit (pieces s) && ((cleanB s).toList == s.toList) && !Lib.hasPrefix s.data.toList [47] && !(s.toList == [46, 46]) && !Lib.hasPrefix s.data.toList [46, 46, 47]
def modeOk (e : EntP) : Bool := decide (bitsRest e.mode < 512) && !(isDirN e.mode && (twoN e.mode || decide (0 < e.data.length)))
def mayE (e : EntP) : Bool := pathOk e.path && modeOk e && (decide (e.mtime ≠ 4294967295) && gidOk e.gid && decide (e.data.length ≤ 65536) && decide (e.path.size ≤ 65535))
end Go.Proofs.YtmcekhgmmocajaaDoor
