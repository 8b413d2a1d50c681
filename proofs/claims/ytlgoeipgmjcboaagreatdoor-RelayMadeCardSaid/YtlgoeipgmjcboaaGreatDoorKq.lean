/- RelayMade: the reference's New. -/
import Derived.Test.YtlgoeipgmjcboaaGreatDoorKp
namespace Go.Proofs.YtlgoeipgmjcboaaGreatDoor
open Go.RowKit Me
/-- A client of the reference, as it begins. -/
def refC0 : List Value := [.int .u32 0, .bool false, .bool false] ++ msgC MsgP.zero nilS nilS nilS
theorem info98 : (Tryz.prog.info? 98).map (fun i => (i.zero, i.size, i.bytes)) = some (some (.agg refC0.toArray), 39, 352) := by kernel_rfl
set_option maxRecDepth 100000 in
set_option maxHeartbeats 4000000 in
theorem refnew_bad {clients : Int} {msize : Nat} {fids tags : Int} (h : ¬ newOk clients msize fids tags) (w : World) :
    Calls Tryz.prog 8 #[.int .i64 clients, .int .u32 (msize : Int), .int .i64 fids, .int .i64 tags] w fun e w' => e = .returned (.tuple #[.pointer none, .int .i64 1]) ∧ w' = w := by
  have H := Lib.hid h
  clear h
  by_cases e0 : clients < 1
  · have b0 : decide (clients < 1) = true := by simpa using e0
    clear e0
    go_enter Tryz.func8, Tryz.ntmps8
    go_wp2_with fail
    go_ret2
    exact ⟨rfl, rfl⟩
  have b0 : decide (clients < 1) = false := by simpa using e0
  by_cases e1 : (16 : Int) < clients
  · have b1 : decide ((16 : Int) < clients) = true := by simpa using e1
    clear e0 e1
    go_enter Tryz.func8, Tryz.ntmps8
    go_wp2_with fail
    go_ret2
    exact ⟨rfl, rfl⟩
  have b1 : decide ((16 : Int) < clients) = false := by simpa using e1
  by_cases e2 : (msize : Int) < 512
  · have b2 : decide ((msize : Int) < 512) = true := by simpa using e2
    clear e0 e1 e2
    go_enter Tryz.func8, Tryz.ntmps8
    go_wp2_with fail
    go_ret2
    exact ⟨rfl, rfl⟩
  have b2 : decide ((msize : Int) < 512) = false := by simpa using e2
  by_cases e3 : (65536 : Int) < (msize : Int)
  · have b3 : decide ((65536 : Int) < (msize : Int)) = true := by simpa using e3
    clear e0 e1 e2 e3
    go_enter Tryz.func8, Tryz.ntmps8
    go_wp2_with fail
    go_ret2
    exact ⟨rfl, rfl⟩
  have b3 : decide ((65536 : Int) < (msize : Int)) = false := by simpa using e3
  by_cases e4 : fids < 1
  · have b4 : decide (fids < 1) = true := by simpa using e4
    clear e0 e1 e2 e3 e4
    go_enter Tryz.func8, Tryz.ntmps8
    go_wp2_with fail
    go_ret2
    exact ⟨rfl, rfl⟩
  have b4 : decide (fids < 1) = false := by simpa using e4
  by_cases e5 : (256 : Int) < fids
  · have b5 : decide ((256 : Int) < fids) = true := by simpa using e5
    clear e0 e1 e2 e3 e4 e5
    go_enter Tryz.func8, Tryz.ntmps8
    go_wp2_with fail
    go_ret2
    exact ⟨rfl, rfl⟩
  have b5 : decide ((256 : Int) < fids) = false := by simpa using e5
  by_cases e6 : tags < 1
  · have b6 : decide (tags < 1) = true := by simpa using e6
    clear e0 e1 e2 e3 e4 e5 e6
    go_enter Tryz.func8, Tryz.ntmps8
    go_wp2_with fail
    go_ret2
    exact ⟨rfl, rfl⟩
  have b6 : decide (tags < 1) = false := by simpa using e6
  by_cases e7 : (64 : Int) < tags
  · have b7 : decide ((64 : Int) < tags) = true := by simpa using e7
    clear e0 e1 e2 e3 e4 e5 e6 e7
    go_enter Tryz.func8, Tryz.ntmps8
    go_wp2_with fail
    go_ret2
    exact ⟨rfl, rfl⟩
  have b7 : decide ((64 : Int) < tags) = false := by simpa using e7
  exact absurd (show newOk clients msize fids tags from ⟨⟨by omega, by omega⟩, ⟨by omega, by omega⟩, ⟨by omega, by omega⟩, ⟨by omega, by omega⟩⟩) H.out
set_option maxRecDepth 100000 in
set_option maxHeartbeats 4000000 in
theorem refnew_any {N msize fids tags : Nat} (h : newOk N msize fids tags) (w : World) :
    Calls Tryz.prog 8 #[.int .i64 (N : Int), .int .u32 (msize : Int), .int .i64 (fids : Int), .int .i64 (tags : Int)] w fun e w' => ∃ r, e = .returned (.tuple #[.pointer (some ⟨r, 0, none⟩), .int .i64 0]) ∧ Mods [] w w' := by
  obtain ⟨h1, h2, h3, h4⟩ := h
  obtain ⟨i0, hi, hz0, hz1, hz2⟩ := info_parts info98
  have hN : N ≤ 16 := by omega
  have hmk := run_makeSlice (P := Tryz.prog) w 86 98 i0 _ Tryz.underlying86 hi hz0 .i64 .i64 ((N : Int) + 1) ((N : Int) + 1) (by omega) (Int.le_refl _) (by rw [hz1]; omega) (by rw [hz2]; omega) (by omega)
  have b1 : decide ((N : Int) < 1) = false := by simpa using h1.1
  have b2 : decide ((16 : Int) < (N : Int)) = false := by simpa using h1.2
  have b3 : decide ((msize : Int) < 512) = false := by simp; omega
  have b4 : decide ((65536 : Int) < (msize : Int)) = false := by simp; omega
  have b5 : decide ((fids : Int) < 1) = false := by simpa using h3.1
  have b6 : decide ((256 : Int) < (fids : Int)) = false := by simpa using h3.2
  have b7 : decide ((tags : Int) < 1) = false := by simpa using h4.1
  have b8 : decide ((64 : Int) < (tags : Int)) = false := by simpa using h4.2
  have hm1 := (Mods.refl [] w).alloc (.cells (madeCells (Value.agg refC0.toArray).cells (((N : Int) + 1).toNat * i0.size)) 98)
  generalize hob : Obj.cells (madeCells (Value.agg refC0.toArray).cells (((N : Int) + 1).toNat * i0.size)) 98 (0, 0) = ob at *
  have HM1 := Lib.hid hm1
  clear hm1 hi hz0 hz1 hz2 h1 h2 h3 h4
  go_enter Tryz.func8, Tryz.ntmps8
  go_wp2_with fail
  go_ret2
  exact ⟨_, rfl, HM1.out.alloc _⟩
end Go.Proofs.YtlgoeipgmjcboaaGreatDoor
