/- stat.PutQid. -/
import Derived.Test.YtedddekkbgaolaaDoorWa
import Derived.Test.YtedddekkbgaolaaDoorSt
namespace Go.Proofs.YtedddekkbgaolaaDoor
open Go.RowKit Me

theorem wrap_u64_big (n : Nat) (h : n < 18446744073709551616) : IntKind.u64.wrap (n : Int) = (n : Int) := by
  rw [IntKind.wrap_u64]
  omega
def qidV (q : QidP) : Array Value := #[.int .u8 (q.kind : Int), .int .u32 (q.vers : Int), .int .u64 (q.path : Int)]
set_option maxHeartbeats 1000000 in
theorem putQid_any {a : Nat} {S : WSt} {vb vo : Value} {w : World} (h : IsW 122 w a S vb vo) (q : QidP) (hq : q.Fits) :
    Calls Tryd.prog 145 #[.pointer (some ⟨a, 0, none⟩), .agg (qidV q)] w fun e w' => e = .returned (.tuple #[]) ∧ WPost 122 w a vb vo (S.qid q) w' := by
  obtain ⟨kind, vers, path⟩ := q
  obtain ⟨h1, h2, h3⟩ := hq
  simp only at h1 h2 h3
  have W0 := Lib.hid ((WAt.start h).alloc (.cells #[.int .u8 (kind : Int), .int .u32 (vers : Int), .int .u64 (path : Int)] 88))
  have R0 := Lib.hid (heap_alloc_new w (.cells #[.int .u8 (kind : Int), .int .u32 (vers : Int), .int .u64 (path : Int)] 88))
  have HP := Lib.hid (wrap_u64_big path h3)
  clear h h3
  simp only [qidV, WSt.qid]
  go_enter Tryd.func145, Tryd.ntmps145
  go_wp2_with fail
  refine (W0.out.call (fun _ _ h => u8_any h kind (by omega))).mono ?_; rintro e w1 ⟨rfl, hw, hk⟩
  have r1 := (hk _ (Or.inr rfl)).trans R0.out
  have W1 := Lib.hid hw
  have R1 := Lib.hid r1
  have d1 : w1.cell? ⟨w.heap.size, 1, none⟩ = some (.int .u32 (vers : Int)) := by rw [cell_of_row _ _ _ _ _ _ r1]; rfl
  clear hw hk r1
  go_wp2_with fail
  refine (W1.out.call (fun _ _ h => u32_any h vers h2)).mono ?_; rintro e w2 ⟨rfl, hw, hk⟩
  have r2 := (hk _ (Or.inr rfl)).trans R1.out
  have W2 := Lib.hid hw
  have d2 : w2.cell? ⟨w.heap.size, 2, none⟩ = some (.int .u64 (path : Int)) := by rw [cell_of_row _ _ _ _ _ _ r2]; rfl
  clear hw hk r2 d1
  go_wp2_with fail
  refine (W2.out.call (fun _ _ h => u64_any h path HP.out)).mono ?_; rintro e w3 ⟨rfl, hw, hk⟩
  have W3 := Lib.hid hw
  clear hw hk
  go_wp2_with fail
  go_end0
  exact ⟨rfl, W3.out.post⟩
end Go.Proofs.YtedddekkbgaolaaDoor
