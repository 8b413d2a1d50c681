/- vergerlaw02's parts. (Printed by wip/bin/genparts.py.) -/
import Derived.Test.YtedddekkbgaolaaDoorTp
import Derived.Test.YtedddekkbgaolaaDoorAw
namespace Go.Proofs.YtedddekkbgaolaaDoor
open Go.RowKit Me

def nV (n : Nat) : Value := .int .u64 (n : Int)
def PartsPost (s : StatP) (w : World) (e : Ending) (w' : World) : Prop :=
  ∃ g1 g2, e = .returned (.tuple #[.slice (some ⟨g1, 0, none⟩) 13 13, .slice (some ⟨g2, 0, none⟩) 13 13]) ∧ w'.heap[g1]? = some (.cells ((partsN s).map nV).toArray 46 (0, 0)) ∧ w'.heap[g2]? = some (.cells ((partsT s).map Value.string).toArray 9 (0, 0)) ∧ Mods [] w w'
set_option maxRecDepth 100000 in
set_option maxHeartbeats 2000000 in
theorem parts_any (s : StatP) (hs : s.Fits) (w : World) : Calls Tryd.prog 68 #[.agg (statV s)] w (PartsPost s w) := by
  obtain ⟨g1, g2, ⟨q1, q2, q3⟩, g3, g4, g5, g6⟩ := hs
  have b0 := heap_alloc_new w (.cells (statV s) 90)
  have B0 := Lib.hid b0
  have M0 := Lib.hid ((Mods.refl [] w).alloc (.cells (statV s) 90))
  clear b0 q3 g6
  have c0 : (w.alloc (.cells (statV s) 90)).cell? ⟨w.heap.size, 0, none⟩ = some (.int .u16 (s.typ : Int)) := (cell_of_row _ _ _ _ _ _ B0.out).trans rfl
  have c1 : (w.alloc (.cells (statV s) 90)).cell? ⟨w.heap.size, 1, none⟩ = some (.int .u32 (s.dev : Int)) := (cell_of_row _ _ _ _ _ _ B0.out).trans rfl
  have c2 : (w.alloc (.cells (statV s) 90)).cell? ⟨w.heap.size, 2, none⟩ = some (.int .u8 (s.qid.kind : Int)) := (cell_of_row _ _ _ _ _ _ B0.out).trans rfl
  have c3 : (w.alloc (.cells (statV s) 90)).cell? ⟨w.heap.size, 3, none⟩ = some (.int .u32 (s.qid.vers : Int)) := (cell_of_row _ _ _ _ _ _ B0.out).trans rfl
  have c4 : (w.alloc (.cells (statV s) 90)).cell? ⟨w.heap.size, 4, none⟩ = some (.int .u64 (s.qid.path : Int)) := (cell_of_row _ _ _ _ _ _ B0.out).trans rfl
  have c5 : (w.alloc (.cells (statV s) 90)).cell? ⟨w.heap.size, 5, none⟩ = some (.int .u32 (s.mode : Int)) := (cell_of_row _ _ _ _ _ _ B0.out).trans rfl
  have c6 : (w.alloc (.cells (statV s) 90)).cell? ⟨w.heap.size, 6, none⟩ = some (.int .u32 (s.atime : Int)) := (cell_of_row _ _ _ _ _ _ B0.out).trans rfl
  have c7 : (w.alloc (.cells (statV s) 90)).cell? ⟨w.heap.size, 7, none⟩ = some (.int .u32 (s.mtime : Int)) := (cell_of_row _ _ _ _ _ _ B0.out).trans rfl
  have c8 : (w.alloc (.cells (statV s) 90)).cell? ⟨w.heap.size, 8, none⟩ = some (.int .u64 (s.length : Int)) := (cell_of_row _ _ _ _ _ _ B0.out).trans rfl
  have c9 : (w.alloc (.cells (statV s) 90)).cell? ⟨w.heap.size, 9, none⟩ = some (.string s.name) := (cell_of_row _ _ _ _ _ _ B0.out).trans rfl
  have c10 : (w.alloc (.cells (statV s) 90)).cell? ⟨w.heap.size, 10, none⟩ = some (.string s.uid) := (cell_of_row _ _ _ _ _ _ B0.out).trans rfl
  have c11 : (w.alloc (.cells (statV s) 90)).cell? ⟨w.heap.size, 11, none⟩ = some (.string s.gid) := (cell_of_row _ _ _ _ _ _ B0.out).trans rfl
  have c12 : (w.alloc (.cells (statV s) 90)).cell? ⟨w.heap.size, 12, none⟩ = some (.string s.muid) := (cell_of_row _ _ _ _ _ _ B0.out).trans rfl
  have N1 := Lib.hid (heap_alloc_new (w.alloc (.cells (statV s) 90)) (.cells #[.int .u64 (s.typ : Int), .int .u64 (s.dev : Int), .int .u64 (s.qid.kind : Int), .int .u64 (s.qid.vers : Int), .int .u64 (s.qid.path : Int), .int .u64 (s.mode : Int), .int .u64 (s.atime : Int), .int .u64 (s.mtime : Int), .int .u64 (s.length : Int), .int .u64 0, .int .u64 0, .int .u64 0, .int .u64 0] 46))
  have M1 := Lib.hid (M0.out.alloc (.cells #[.int .u64 (s.typ : Int), .int .u64 (s.dev : Int), .int .u64 (s.qid.kind : Int), .int .u64 (s.qid.vers : Int), .int .u64 (s.qid.path : Int), .int .u64 (s.mode : Int), .int .u64 (s.atime : Int), .int .u64 (s.mtime : Int), .int .u64 (s.length : Int), .int .u64 0, .int .u64 0, .int .u64 0, .int .u64 0] 46))
  have c9' : ((w.alloc (.cells (statV s) 90)).alloc (.cells #[.int .u64 (s.typ : Int), .int .u64 (s.dev : Int), .int .u64 (s.qid.kind : Int), .int .u64 (s.qid.vers : Int), .int .u64 (s.qid.path : Int), .int .u64 (s.mode : Int), .int .u64 (s.atime : Int), .int .u64 (s.mtime : Int), .int .u64 (s.length : Int), .int .u64 0, .int .u64 0, .int .u64 0, .int .u64 0] 46)).cell? ⟨w.heap.size, 9, none⟩ = some (.string s.name) := (cell_of_row _ _ _ _ _ _ ((Go.heap_alloc_old (w.alloc (.cells (statV s) 90)) (.cells #[.int .u64 (s.typ : Int), .int .u64 (s.dev : Int), .int .u64 (s.qid.kind : Int), .int .u64 (s.qid.vers : Int), .int .u64 (s.qid.path : Int), .int .u64 (s.mode : Int), .int .u64 (s.atime : Int), .int .u64 (s.mtime : Int), .int .u64 (s.length : Int), .int .u64 0, .int .u64 0, .int .u64 0, .int .u64 0] 46) (by simp)).trans B0.out)).trans rfl
  have c10' : ((w.alloc (.cells (statV s) 90)).alloc (.cells #[.int .u64 (s.typ : Int), .int .u64 (s.dev : Int), .int .u64 (s.qid.kind : Int), .int .u64 (s.qid.vers : Int), .int .u64 (s.qid.path : Int), .int .u64 (s.mode : Int), .int .u64 (s.atime : Int), .int .u64 (s.mtime : Int), .int .u64 (s.length : Int), .int .u64 0, .int .u64 0, .int .u64 0, .int .u64 0] 46)).cell? ⟨w.heap.size, 10, none⟩ = some (.string s.uid) := (cell_of_row _ _ _ _ _ _ ((Go.heap_alloc_old (w.alloc (.cells (statV s) 90)) (.cells #[.int .u64 (s.typ : Int), .int .u64 (s.dev : Int), .int .u64 (s.qid.kind : Int), .int .u64 (s.qid.vers : Int), .int .u64 (s.qid.path : Int), .int .u64 (s.mode : Int), .int .u64 (s.atime : Int), .int .u64 (s.mtime : Int), .int .u64 (s.length : Int), .int .u64 0, .int .u64 0, .int .u64 0, .int .u64 0] 46) (by simp)).trans B0.out)).trans rfl
  have c11' : ((w.alloc (.cells (statV s) 90)).alloc (.cells #[.int .u64 (s.typ : Int), .int .u64 (s.dev : Int), .int .u64 (s.qid.kind : Int), .int .u64 (s.qid.vers : Int), .int .u64 (s.qid.path : Int), .int .u64 (s.mode : Int), .int .u64 (s.atime : Int), .int .u64 (s.mtime : Int), .int .u64 (s.length : Int), .int .u64 0, .int .u64 0, .int .u64 0, .int .u64 0] 46)).cell? ⟨w.heap.size, 11, none⟩ = some (.string s.gid) := (cell_of_row _ _ _ _ _ _ ((Go.heap_alloc_old (w.alloc (.cells (statV s) 90)) (.cells #[.int .u64 (s.typ : Int), .int .u64 (s.dev : Int), .int .u64 (s.qid.kind : Int), .int .u64 (s.qid.vers : Int), .int .u64 (s.qid.path : Int), .int .u64 (s.mode : Int), .int .u64 (s.atime : Int), .int .u64 (s.mtime : Int), .int .u64 (s.length : Int), .int .u64 0, .int .u64 0, .int .u64 0, .int .u64 0] 46) (by simp)).trans B0.out)).trans rfl
  have c12' : ((w.alloc (.cells (statV s) 90)).alloc (.cells #[.int .u64 (s.typ : Int), .int .u64 (s.dev : Int), .int .u64 (s.qid.kind : Int), .int .u64 (s.qid.vers : Int), .int .u64 (s.qid.path : Int), .int .u64 (s.mode : Int), .int .u64 (s.atime : Int), .int .u64 (s.mtime : Int), .int .u64 (s.length : Int), .int .u64 0, .int .u64 0, .int .u64 0, .int .u64 0] 46)).cell? ⟨w.heap.size, 12, none⟩ = some (.string s.muid) := (cell_of_row _ _ _ _ _ _ ((Go.heap_alloc_old (w.alloc (.cells (statV s) 90)) (.cells #[.int .u64 (s.typ : Int), .int .u64 (s.dev : Int), .int .u64 (s.qid.kind : Int), .int .u64 (s.qid.vers : Int), .int .u64 (s.qid.path : Int), .int .u64 (s.mode : Int), .int .u64 (s.atime : Int), .int .u64 (s.mtime : Int), .int .u64 (s.length : Int), .int .u64 0, .int .u64 0, .int .u64 0, .int .u64 0] 46) (by simp)).trans B0.out)).trans rfl
  have T1 := Lib.hid (heap_alloc_new ((w.alloc (.cells (statV s) 90)).alloc (.cells #[.int .u64 (s.typ : Int), .int .u64 (s.dev : Int), .int .u64 (s.qid.kind : Int), .int .u64 (s.qid.vers : Int), .int .u64 (s.qid.path : Int), .int .u64 (s.mode : Int), .int .u64 (s.atime : Int), .int .u64 (s.mtime : Int), .int .u64 (s.length : Int), .int .u64 0, .int .u64 0, .int .u64 0, .int .u64 0] 46)) (.cells #[.string ⟨#[]⟩, .string ⟨#[]⟩, .string ⟨#[]⟩, .string ⟨#[]⟩, .string ⟨#[]⟩, .string ⟨#[]⟩, .string ⟨#[]⟩, .string ⟨#[]⟩, .string ⟨#[]⟩, .string s.name, .string s.uid, .string s.gid, .string s.muid] 9))
  have N2 := Lib.hid ((Go.heap_alloc_old ((w.alloc (.cells (statV s) 90)).alloc (.cells #[.int .u64 (s.typ : Int), .int .u64 (s.dev : Int), .int .u64 (s.qid.kind : Int), .int .u64 (s.qid.vers : Int), .int .u64 (s.qid.path : Int), .int .u64 (s.mode : Int), .int .u64 (s.atime : Int), .int .u64 (s.mtime : Int), .int .u64 (s.length : Int), .int .u64 0, .int .u64 0, .int .u64 0, .int .u64 0] 46)) (.cells #[.string ⟨#[]⟩, .string ⟨#[]⟩, .string ⟨#[]⟩, .string ⟨#[]⟩, .string ⟨#[]⟩, .string ⟨#[]⟩, .string ⟨#[]⟩, .string ⟨#[]⟩, .string ⟨#[]⟩, .string s.name, .string s.uid, .string s.gid, .string s.muid] 9) (by simp)).trans N1.out)
  have M2 := Lib.hid (M1.out.alloc (.cells #[.string ⟨#[]⟩, .string ⟨#[]⟩, .string ⟨#[]⟩, .string ⟨#[]⟩, .string ⟨#[]⟩, .string ⟨#[]⟩, .string ⟨#[]⟩, .string ⟨#[]⟩, .string ⟨#[]⟩, .string s.name, .string s.uid, .string s.gid, .string s.muid] 9))
  clear M0 M1 N1 B0
  go_enter Tryd.func68, Tryd.ntmps68
  go_wp2_with fail
  have hn2 := N2.out
  have ht1 := T1.out
  simp only [World.size_alloc] at hn2 ht1
  refine bodyPost_ret (v := .tuple #[.slice (some ⟨w.heap.size + 1, 0, none⟩) 13 13, .slice (some ⟨w.heap.size + 1 + 1, 0, none⟩) 13 13]) (by simp [results, Tryd.results68, go_sem]) rfl ?_
  exact ⟨_, _, rfl, hn2, ht1, M2.out⟩
end Go.Proofs.YtedddekkbgaolaaDoor
