/- A message in memory: its cells, its lists; a block that holds it. -/
import Derived.Test.YtlgoeipgmjcboaaGreatDoorMs
import Derived.Test.YtlgoeipgmjcboaaGreatDoorSp
import Derived.Deep.MidRow
namespace Go.Proofs.YtlgoeipgmjcboaaGreatDoor
open Go.RowKit Me

theorem range_mods {w w' : World} {F : List Nat} {g o : Nat} {cs : List Value} (h : w.rangeAt g o cs) (hm : Mods F w w') (hn : g ∉ F) : w'.rangeAt g o cs := by
  intro j v hj
  have hc := h j v hj
  rw [hm.cell (p := ⟨g, o + j, none⟩) (World.block_lt_of_cell? w _ hc) hn]
  exact hc
def qidC (q : QidP) : List Value := [.int .u8 (q.kind : Int), .int .u32 (q.vers : Int), .int .u64 (q.path : Int)]
/-- A slice of qids that is read. -/
def RdQ (w : World) (v : Value) (L : List QidP) : Prop :=
  ∃ A c, v = .slice A L.length c ∧ L.length ≤ c ∧ c ≤ maxLen ∧ ∀ i q, L[i]? = some q → ∃ g off, A = some ⟨g, off, none⟩ ∧ w.rangeAt g (off + i * 3) (qidC q)
theorem RdQ.mods {w w' : World} {v : Value} {L : List QidP} (h : RdQ w v L) (hm : Mods [] w w') : RdQ w' v L := by
  obtain ⟨A, c, e, h1, h2, h3⟩ := h
  refine ⟨A, c, e, h1, h2, fun i p hp => ?_⟩
  obtain ⟨g, off, e1, h4⟩ := h3 i p hp
  exact ⟨g, off, e1, range_mods h4 hm (by simp)⟩
theorem RdQ.at {w : World} {A : Option Addr} {n c : Nat} {L : List QidP} (h : RdQ w (.slice A n c) L) {i : Nat} {q : QidP} (hs : L[i]? = some q) : ∃ g off, A = some ⟨g, off, none⟩ ∧ w.rangeAt g (off + i * 3) (qidC q) := by
  obtain ⟨A', c', e, _, _, h3⟩ := h
  have e0 := (Value.slice.inj e).1
  subst e0
  exact h3 i _ hs
/-- The message's 36 cells; its three lists are vn, vq, vd. -/
def msgC (m : MsgP) (vn vq vd : Value) : List Value :=
  [.int .u8 (m.kind : Int), .int .u16 (m.tag : Int), .int .u32 (m.msize : Int), .string m.version, .int .u32 (m.afid : Int), .string m.uname, .string m.aname, .string m.ename,
   .int .u16 (m.oldtag : Int), .int .u32 (m.fid : Int), .int .u32 (m.newfid : Int), vn, vq, .int .u8 (m.qid.kind : Int), .int .u32 (m.qid.vers : Int), .int .u64 (m.qid.path : Int),
   .int .u8 (m.mode : Int), .int .u32 (m.iounit : Int), .string m.name, .int .u32 (m.perm : Int), .int .u64 (m.offset : Int), .int .u32 (m.count : Int), vd] ++ (statV m.stat).toList
/-- What a message's lists read. -/
structure MsgR (w : World) (m : MsgP) (vn vq vd : Value) : Prop where
  names : Rd w vn (m.names.map Value.string)
  qids : RdQ w vq m.qids
  data : Rd w vd (m.data.map byteV)
theorem MsgR.mods {w w' : World} {m : MsgP} {vn vq vd : Value} (h : MsgR w m vn vq vd) (hm : Mods [] w w') : MsgR w' m vn vq vd :=
  ⟨h.names.mods hm (by simp), h.qids.mods hm, h.data.mods hm (by simp)⟩
/-- A message in a block of its own. -/
structure IsM (w : World) (b : Nat) (m : MsgP) (vn vq vd : Value) : Prop where
  row : w.heap[b]? = some (.cells (msgC m vn vq vd).toArray 47 (0, 0))
  lists : MsgR w m vn vq vd
theorem IsM.mods {w w' : World} {b : Nat} {m : MsgP} {vn vq vd : Value} (h : IsM w b m vn vq vd) (hm : Mods [] w w') : IsM w' b m vn vq vd :=
  ⟨hm.heap h.row (by simp), h.lists.mods hm⟩
theorem IsM.cell {w : World} {b : Nat} {m : MsgP} {vn vq vd : Value} (h : IsM w b m vn vq vd) (j : Nat) : w.cell? ⟨b, j, none⟩ = (msgC m vn vq vd).toArray[j]? :=
  cell_of_row _ _ _ _ _ _ h.row
/-- What is handed in: a message of a size that can be. -/
structure SmallM (m : MsgP) : Prop extends m.Fits where
  texts : ∀ t ∈ m.version :: m.uname :: m.aname :: m.ename :: m.name :: m.stat.texts ++ m.names, t.size ≤ 100000000
  lists : m.names.length ≤ 100000000 ∧ m.qids.length ≤ 100000000 ∧ m.data.length ≤ 100000000
end Go.Proofs.YtlgoeipgmjcboaaGreatDoor
