/- What is done for a field: number32, text, listField, otherField, fieldOf. | msg.fieldOf. -/
import Derived.Test.YtlgoeipgmjcboaaGreatDoorMo
import Derived.Laws.EntriesVeiled
namespace Go.Proofs.YtlgoeipgmjcboaaGreatDoor
open Go.RowKit Me

theorem fieldNumber_any (word : ByteArray) (k : Nat) (w : World) :
    Calls Tryz.prog 100 #[.string word, .func (.func k) #[] #[]] w fun e w' => ∃ c, e = .returned (.agg #[.string word, .func (.func 126) #[] #[], .func (.func 127) #[] #[.pointer (some ⟨c, 0, none⟩)], .func (.func 128) #[] #[.pointer (some ⟨c, 0, none⟩)], .func (.func 130) #[] #[.pointer (some ⟨c, 0, none⟩)], .func (.func 131) #[] #[.pointer (some ⟨c, 0, none⟩)], .func (.func 133) #[] #[.pointer (some ⟨c, 0, none⟩)]]) ∧ Mods [] w w' ∧ w'.cell? ⟨c, 0, none⟩ = some (.func (.func k) #[] #[]) := by
  have hmf : ∀ (fn : Fn) (first cap : Array Value) (w : World), (Instr.makeFunc fn first cap).run Tryz.prog w = .ok (.func fn first cap) w := fun _ _ _ _ => rfl
  go_enter Tryz.func100, Tryz.ntmps100
  go_wp2_with fail
  refine bodyPost_ret (v := .agg #[.string word, .func (.func 126) #[] #[], .func (.func 127) #[] #[.pointer (some ⟨w.heap.size, 0, none⟩)], .func (.func 128) #[] #[.pointer (some ⟨w.heap.size, 0, none⟩)], .func (.func 130) #[] #[.pointer (some ⟨w.heap.size, 0, none⟩)], .func (.func 131) #[] #[.pointer (some ⟨w.heap.size, 0, none⟩)], .func (.func 133) #[] #[.pointer (some ⟨w.heap.size, 0, none⟩)]]) (by simp [results, Tryz.results100, go_sem]) rfl ?_
  refine ⟨_, rfl, ((Mods.refl [] w).alloc _).alloc _, ?_⟩
  rw [cell_of_row _ _ _ _ _ _ ((alloc_old _ (by simp)).trans (heap_alloc_new w _))]
  rfl
theorem fieldText_any (word : ByteArray) (k : Nat) (w : World) :
    Calls Tryz.prog 108 #[.string word, .func (.func k) #[] #[]] w fun e w' => ∃ c, e = .returned (.agg #[.string word, .func (.func 135) #[] #[.pointer (some ⟨c, 0, none⟩)], .func (.func 137) #[] #[.pointer (some ⟨c, 0, none⟩)], .func (.func 139) #[] #[.pointer (some ⟨c, 0, none⟩)], .func (.func 141) #[] #[.pointer (some ⟨c, 0, none⟩)], .func (.func 142) #[] #[.pointer (some ⟨c, 0, none⟩)], .func (.func 144) #[] #[.pointer (some ⟨c, 0, none⟩)]]) ∧ Mods [] w w' ∧ w'.cell? ⟨c, 0, none⟩ = some (.func (.func k) #[] #[]) := by
  have hmf : ∀ (fn : Fn) (first cap : Array Value) (w : World), (Instr.makeFunc fn first cap).run Tryz.prog w = .ok (.func fn first cap) w := fun _ _ _ _ => rfl
  go_enter Tryz.func108, Tryz.ntmps108
  go_wp2_with fail
  refine bodyPost_ret (v := .agg #[.string word, .func (.func 135) #[] #[.pointer (some ⟨w.heap.size, 0, none⟩)], .func (.func 137) #[] #[.pointer (some ⟨w.heap.size, 0, none⟩)], .func (.func 139) #[] #[.pointer (some ⟨w.heap.size, 0, none⟩)], .func (.func 141) #[] #[.pointer (some ⟨w.heap.size, 0, none⟩)], .func (.func 142) #[] #[.pointer (some ⟨w.heap.size, 0, none⟩)], .func (.func 144) #[] #[.pointer (some ⟨w.heap.size, 0, none⟩)]]) (by simp [results, Tryz.results108, go_sem]) rfl ?_
  refine ⟨_, rfl, ((Mods.refl [] w).alloc _).alloc _, ?_⟩
  rw [cell_of_row _ _ _ _ _ _ ((alloc_old _ (by simp)).trans (heap_alloc_new w _))]
  rfl
def GoodC (m : MsgP) (n : Nat) (w : World) (k : Nat) (c : Array Value) : Prop :=
  (∀ (args : Array Value) (w : World), (callFunc k args).run Tryz.prog w = .ok (.enter k args) w) ∧
  ∀ b vn vq vd, IsM w b m vn vq vd → SmallM m → Lib.Utf8Tabs 4 5 w → Calls Tryz.prog k (#[.pointer (some ⟨b, 0, none⟩)] ++ c) w fun e w' => e = .returned (.bool (m.goodF n)) ∧ Mods [] w w'
def PutC (m : MsgP) (n : Nat) (w : World) (k : Nat) (c : Array Value) : Prop :=
  (∀ (args : Array Value) (w : World), (callFunc k args).run Tryz.prog w = .ok (.enter k args) w) ∧
  ∀ w0 a S b vn vq vd, IsM w0 b m vn vq vd → SmallM m → m.goodF n = true → Lib.Utf8Tabs 4 5 w0 → OwnW 195 w0 w a S →
    Calls Tryz.prog k (#[.pointer (some ⟨a, 0, none⟩), .pointer (some ⟨b, 0, none⟩)] ++ c) w fun e w' => e = .returned (.tuple #[]) ∧ OwnW 195 w0 w' a (m.putF n S)
/-- What is done for field n of m: is it good, it is written; in worlds in which these cells hold these values. -/
def IsField (m : MsgP) (n : Nat) (fv : Value) (cs : List (Nat × Value)) : Prop :=
  ∃ word k1 c1 k2 c2 k3 c3 k4 c4 k5 c5 k6 c6, fv = .agg #[.string word, .func (.func k1) #[] c1, .func (.func k2) #[] c2, .func (.func k3) #[] c3, .func (.func k4) #[] c4, .func (.func k5) #[] c5, .func (.func k6) #[] c6] ∧
    ∀ w : World, (∀ e ∈ cs, w.cell? ⟨e.1, 0, none⟩ = some e.2) → GoodC m n w k1 c1 ∧ PutC m n w k2 c2
theorem size_max {m : MsgP} (h : SmallM m) {t : ByteArray} (ht : t ∈ m.version :: m.uname :: m.aname :: m.ename :: m.name :: m.stat.texts ++ m.names) : t.size ≤ maxLen := by
  have := h.texts t ht
  unfold maxLen
  omega
theorem alwaysC (m : MsgP) (n : Nat) (h : m.goodF n = true) (w : World) : GoodC m n w 126 #[] :=
  ⟨enters_of Tryz.func126 (by kernel_rfl) rfl, fun b _ _ _ _ _ _ => (always_any _ w).mono fun e w' ⟨h1, h2⟩ => ⟨by rw [h1, h], by rw [h2]; exact Mods.refl _ _⟩⟩
theorem numC (m : MsgP) (n o : Nat) {k : Nat} (hk : AtFn k o) {w : World} (c v : Nat) (hc : w.cell? ⟨c, 0, none⟩ = some (.func (.func k) #[] #[])) (hv : ∀ vn vq vd, (msgC m vn vq vd)[o]? = some (.int .u32 (v : Int)))
    (hf : m.Fits → v < 4294967296) (he : ∀ S, m.putF n S = S.put (le v 4)) : PutC m n w 127 #[.pointer (some ⟨c, 0, none⟩)] := by
  refine ⟨enters_of Tryz.func127 (by kernel_rfl) rfl, fun w0 a S b vn vq vd h1 h2 _ _ h5 => ?_⟩
  rw [he]
  exact h5.call fun vb vo hw => numput hk c b a v S vb vo w hc (by rw [(h1.mods h5.mods).cell o]; simpa using hv vn vq vd) (hf h2.toFits) hw
theorem txtG (m : MsgP) (n o : Nat) {k : Nat} (hk : AtFn k o) {w : World} (c : Nat) (t : ByteArray) (hc : w.cell? ⟨c, 0, none⟩ = some (.func (.func k) #[] #[])) (hv : ∀ vn vq vd, (msgC m vn vq vd)[o]? = some (.string t))
    (ht : t ∈ m.version :: m.uname :: m.aname :: m.ename :: m.name :: m.stat.texts ++ m.names) (he : m.goodF n = isGood t) : GoodC m n w 135 #[.pointer (some ⟨c, 0, none⟩)] := by
  refine ⟨enters_of Tryz.func135 (by kernel_rfl) rfl, fun b vn vq vd h1 h2 h3 => ?_⟩
  rw [he]
  exact textgood hk c b w t hc (by rw [h1.cell o]; simpa using hv vn vq vd) (size_max h2 ht) h3
theorem txtC (m : MsgP) (n o : Nat) {k : Nat} (hk : AtFn k o) {w : World} (c : Nat) (t : ByteArray) (hc : w.cell? ⟨c, 0, none⟩ = some (.func (.func k) #[] #[])) (hv : ∀ vn vq vd, (msgC m vn vq vd)[o]? = some (.string t))
    (ht : t ∈ m.version :: m.uname :: m.aname :: m.ename :: m.name :: m.stat.texts ++ m.names) (he : ∀ S, m.putF n S = S.text t.data.toList) : PutC m n w 137 #[.pointer (some ⟨c, 0, none⟩)] := by
  refine ⟨enters_of Tryz.func137 (by kernel_rfl) rfl, fun w0 a S b vn vq vd h1 h2 _ h4 h5 => ?_⟩
  rw [he]
  exact h5.call fun vb vo hw => textput hk c b a t S vb vo w hc (by rw [(h1.mods h5.mods).cell o]; simpa using hv vn vq vd) (size_max h2 ht) (tabs_mods h5.mods h4) hw
theorem putF_stat (m : MsgP) (S : WSt) : m.putF 19 S = (S.opn.1.stat m.stat).shut S.opn.2 := by
  simp [MsgP.putF, MsgP.textOf]
theorem mem_stat (m : MsgP) {t : ByteArray} (h : t ∈ m.stat.texts) : t ∈ m.version :: m.uname :: m.aname :: m.ename :: m.name :: m.stat.texts ++ m.names :=
  List.mem_append_left _ (List.mem_cons_of_mem _ (List.mem_cons_of_mem _ (List.mem_cons_of_mem _ (List.mem_cons_of_mem _ (List.mem_cons_of_mem _ h)))))
theorem stat_small {m : MsgP} (h : SmallM m) : m.stat.size ≤ 600000000000000 := by
  have h1 := h.texts m.stat.name (by simp [StatP.texts])
  have h2 := h.texts m.stat.uid (by simp [StatP.texts])
  have h3 := h.texts m.stat.gid (by simp [StatP.texts])
  have h4 := h.texts m.stat.muid (by simp [StatP.texts])
  unfold StatP.size
  omega
theorem field183_9 (m : MsgP) (w : World) : Calls Tryz.prog 183 #[.int .u8 9] w fun e w' => ∃ fv, e = .returned fv ∧ Mods [] w w' ∧ IsField m 9 fv [] := by
  have hmf : ∀ (fn : Fn) (first cap : Array Value) (w : World), (Instr.makeFunc fn first cap).run Tryz.prog w = .ok (.func fn first cap) w := fun _ _ _ _ => rfl
  go_enter Tryz.func183, Tryz.ntmps183
  go_wp2_with fail
  refine bodyPost_ret (v := .agg #[.string ⟨#[110, 97, 109, 101, 115]⟩, .func (.func 211) #[] #[], .func (.func 214) #[] #[], .func (.func 216) #[] #[], .func (.func 218) #[] #[], .func (.func 219) #[] #[], .func (.func 221) #[] #[]]) (by simp [results, Tryz.results183, go_sem]) rfl ?_
  refine ⟨_, rfl, (Mods.refl [] w).alloc _, _, _, _, _, _, _, _, _, _, _, _, _, _, rfl, fun w1 _ => ⟨?_, ?_⟩⟩
  · exact ⟨enters_of Tryz.func211 (by kernel_rfl) rfl, fun b vn vq vd hM hs hT => good211 hM hs.lists.1 (fun t ht => size_max hs (List.mem_append_right _ ht)) hT⟩
  · refine ⟨enters_of Tryz.func214 (by kernel_rfl) rfl, fun w0 a S b vn vq vd hM hs hg hT h => ?_⟩
    have hl : m.names.length ≤ 16 := of_decide_eq_true ((Bool.and_eq_true _ _).mp (show (decide (m.names.length ≤ 16) && m.names.all isGood) = true from hg)).1
    exact put214 hM hl (fun t ht => size_max hs (List.mem_append_right _ ht)) hT h
theorem field183_10 (m : MsgP) (w : World) : Calls Tryz.prog 183 #[.int .u8 10] w fun e w' => ∃ fv, e = .returned fv ∧ Mods [] w w' ∧ IsField m 10 fv [] := by
  have hmf : ∀ (fn : Fn) (first cap : Array Value) (w : World), (Instr.makeFunc fn first cap).run Tryz.prog w = .ok (.func fn first cap) w := fun _ _ _ _ => rfl
  go_enter Tryz.func183, Tryz.ntmps183
  go_wp2_with fail
  refine bodyPost_ret (v := .agg #[.string ⟨#[113, 105, 100, 115]⟩, .func (.func 223) #[] #[], .func (.func 224) #[] #[], .func (.func 227) #[] #[], .func (.func 230) #[] #[], .func (.func 231) #[] #[], .func (.func 233) #[] #[]]) (by simp [results, Tryz.results183, go_sem]) rfl ?_
  refine ⟨_, rfl, (Mods.refl [] w).alloc _, _, _, _, _, _, _, _, _, _, _, _, _, _, rfl, fun w1 _ => ⟨?_, ?_⟩⟩
  · exact ⟨enters_of Tryz.func223 (by kernel_rfl) rfl, fun b vn vq vd hM hs hT => good223 hM hs.lists.2.1⟩
  · refine ⟨enters_of Tryz.func224 (by kernel_rfl) rfl, fun w0 a S b vn vq vd hM hs hg hT h => ?_⟩
    exact put224 hM (of_decide_eq_true hg) hs.qids h
theorem field183_19 (m : MsgP) (w : World) : Calls Tryz.prog 183 #[.int .u8 19] w fun e w' => ∃ fv, e = .returned fv ∧ Mods [] w w' ∧ IsField m 19 fv [] := by
  have hmf : ∀ (fn : Fn) (first cap : Array Value) (w : World), (Instr.makeFunc fn first cap).run Tryz.prog w = .ok (.func fn first cap) w := fun _ _ _ _ => rfl
  go_enter Tryz.func183, Tryz.ntmps183
  go_wp2_with fail
  refine bodyPost_ret (v := .agg #[.string ⟨#[115, 116, 97, 116]⟩, .func (.func 235) #[] #[], .func (.func 236) #[] #[], .func (.func 238) #[] #[], .func (.func 240) #[] #[], .func (.func 241) #[] #[], .func (.func 243) #[] #[]]) (by simp [results, Tryz.results183, go_sem]) rfl ?_
  refine ⟨_, rfl, (Mods.refl [] w).alloc _, _, _, _, _, _, _, _, _, _, _, _, _, _, rfl, fun w1 _ => ⟨?_, ?_⟩⟩
  · refine ⟨enters_of Tryz.func235 (by kernel_rfl) rfl, fun b vn vq vd hM hs hT => ?_⟩
    rw [show m.goodF 19 = m.stat.texts.all isGood from rfl]
    exact good235 hM (fun t ht => size_max hs (mem_stat m ht)) hT
  · refine ⟨enters_of Tryz.func236 (by kernel_rfl) rfl, fun w0 a S b vn vq vd hM hs hg hT h => ?_⟩
    rw [putF_stat]
    exact put236 hM hs.stat (stat_small hs) hT h
theorem field114_6 (m : MsgP) (w : World) : Calls Tryz.prog 114 #[.int .u8 6] w fun e w' => ∃ fv, e = .returned fv ∧ Mods [] w w' ∧ IsField m 6 fv [] := by
  have hmf : ∀ (fn : Fn) (first cap : Array Value) (w : World), (Instr.makeFunc fn first cap).run Tryz.prog w = .ok (.func fn first cap) w := fun _ _ _ _ => rfl
  go_enter Tryz.func114, Tryz.ntmps114
  go_wp2_with fail
  refine bodyPost_ret (v := .agg #[.string ⟨#[111, 108, 100, 116, 97, 103]⟩, .func (.func 126) #[] #[], .func (.func 146) #[] #[], .func (.func 147) #[] #[], .func (.func 149) #[] #[], .func (.func 150) #[] #[], .func (.func 151) #[] #[]]) (by simp [results, Tryz.results114, go_sem]) rfl ?_
  refine ⟨_, rfl, (Mods.refl [] w).alloc _, _, _, _, _, _, _, _, _, _, _, _, _, _, rfl, fun w1 _ => ⟨?_, ?_⟩⟩
  · exact alwaysC m 6 rfl _
  · refine ⟨enters_of Tryz.func146 (by kernel_rfl) rfl, fun w0 a S b vn vq vd hM hs hg hT h => ?_⟩
    exact put146 hM hs.toFits h
theorem field114_12 (m : MsgP) (w : World) : Calls Tryz.prog 114 #[.int .u8 12] w fun e w' => ∃ fv, e = .returned fv ∧ Mods [] w w' ∧ IsField m 12 fv [] := by
  have hmf : ∀ (fn : Fn) (first cap : Array Value) (w : World), (Instr.makeFunc fn first cap).run Tryz.prog w = .ok (.func fn first cap) w := fun _ _ _ _ => rfl
  go_enter Tryz.func114, Tryz.ntmps114
  go_wp2_with fail
  refine bodyPost_ret (v := .agg #[.string ⟨#[109, 111, 100, 101]⟩, .func (.func 126) #[] #[], .func (.func 152) #[] #[], .func (.func 153) #[] #[], .func (.func 155) #[] #[], .func (.func 156) #[] #[], .func (.func 157) #[] #[]]) (by simp [results, Tryz.results114, go_sem]) rfl ?_
  refine ⟨_, rfl, (Mods.refl [] w).alloc _, _, _, _, _, _, _, _, _, _, _, _, _, _, rfl, fun w1 _ => ⟨?_, ?_⟩⟩
  · exact alwaysC m 12 rfl _
  · refine ⟨enters_of Tryz.func152 (by kernel_rfl) rfl, fun w0 a S b vn vq vd hM hs hg hT h => ?_⟩
    exact put152 hM hs.toFits h
theorem field114_16 (m : MsgP) (w : World) : Calls Tryz.prog 114 #[.int .u8 16] w fun e w' => ∃ fv, e = .returned fv ∧ Mods [] w w' ∧ IsField m 16 fv [] := by
  have hmf : ∀ (fn : Fn) (first cap : Array Value) (w : World), (Instr.makeFunc fn first cap).run Tryz.prog w = .ok (.func fn first cap) w := fun _ _ _ _ => rfl
  go_enter Tryz.func114, Tryz.ntmps114
  go_wp2_with fail
  refine bodyPost_ret (v := .agg #[.string ⟨#[111, 102, 102, 115, 101, 116]⟩, .func (.func 126) #[] #[], .func (.func 158) #[] #[], .func (.func 160) #[] #[], .func (.func 162) #[] #[], .func (.func 163) #[] #[], .func (.func 164) #[] #[]]) (by simp [results, Tryz.results114, go_sem]) rfl ?_
  refine ⟨_, rfl, (Mods.refl [] w).alloc _, _, _, _, _, _, _, _, _, _, _, _, _, _, rfl, fun w1 _ => ⟨?_, ?_⟩⟩
  · exact alwaysC m 16 rfl _
  · refine ⟨enters_of Tryz.func158 (by kernel_rfl) rfl, fun w0 a S b vn vq vd hM hs hg hT h => ?_⟩
    exact put158 hM hs.toFits h
theorem field114_18 (m : MsgP) (w : World) : Calls Tryz.prog 114 #[.int .u8 18] w fun e w' => ∃ fv, e = .returned fv ∧ Mods [] w w' ∧ IsField m 18 fv [] := by
  have hmf : ∀ (fn : Fn) (first cap : Array Value) (w : World), (Instr.makeFunc fn first cap).run Tryz.prog w = .ok (.func fn first cap) w := fun _ _ _ _ => rfl
  go_enter Tryz.func114, Tryz.ntmps114
  go_wp2_with fail
  refine bodyPost_ret (v := .agg #[.string ⟨#[100, 97, 116, 97]⟩, .func (.func 126) #[] #[], .func (.func 165) #[] #[], .func (.func 167) #[] #[], .func (.func 169) #[] #[], .func (.func 170) #[] #[], .func (.func 172) #[] #[]]) (by simp [results, Tryz.results114, go_sem]) rfl ?_
  refine ⟨_, rfl, (Mods.refl [] w).alloc _, _, _, _, _, _, _, _, _, _, _, _, _, _, rfl, fun w1 _ => ⟨?_, ?_⟩⟩
  · exact alwaysC m 18 rfl _
  · refine ⟨enters_of Tryz.func165 (by kernel_rfl) rfl, fun w0 a S b vn vq vd hM hs hg hT h => ?_⟩
    exact put165 hM hs.lists.2.2 h
theorem field114_11 (m : MsgP) (w : World) : Calls Tryz.prog 114 #[.int .u8 11] w fun e w' => ∃ fv, e = .returned fv ∧ Mods [] w w' ∧ IsField m 11 fv [] := by
  have hmf : ∀ (fn : Fn) (first cap : Array Value) (w : World), (Instr.makeFunc fn first cap).run Tryz.prog w = .ok (.func fn first cap) w := fun _ _ _ _ => rfl
  go_enter Tryz.func114, Tryz.ntmps114
  go_wp2_with fail
  refine bodyPost_ret (v := .agg #[.string ⟨#[113, 105, 100]⟩, .func (.func 126) #[] #[], .func (.func 174) #[] #[], .func (.func 176) #[] #[], .func (.func 178) #[] #[], .func (.func 179) #[] #[], .func (.func 181) #[] #[]]) (by simp [results, Tryz.results114, go_sem]) rfl ?_
  refine ⟨_, rfl, (Mods.refl [] w).alloc _, _, _, _, _, _, _, _, _, _, _, _, _, _, rfl, fun w1 _ => ⟨?_, ?_⟩⟩
  · exact alwaysC m 11 rfl _
  · refine ⟨enters_of Tryz.func174 (by kernel_rfl) rfl, fun w0 a S b vn vq vd hM hs hg hT h => ?_⟩
    exact put174 hM hs.toFits h
theorem other_6 (m : MsgP) (w : World) : Calls Tryz.prog 114 #[.int .u8 6] w fun e w' => ∃ fv, e = .returned fv ∧ Mods [] w w' ∧ IsField m 6 fv [] := field114_6 m w
theorem other_12 (m : MsgP) (w : World) : Calls Tryz.prog 114 #[.int .u8 12] w fun e w' => ∃ fv, e = .returned fv ∧ Mods [] w w' ∧ IsField m 12 fv [] := field114_12 m w
theorem other_16 (m : MsgP) (w : World) : Calls Tryz.prog 114 #[.int .u8 16] w fun e w' => ∃ fv, e = .returned fv ∧ Mods [] w w' ∧ IsField m 16 fv [] := field114_16 m w
theorem other_18 (m : MsgP) (w : World) : Calls Tryz.prog 114 #[.int .u8 18] w fun e w' => ∃ fv, e = .returned fv ∧ Mods [] w w' ∧ IsField m 18 fv [] := field114_18 m w
theorem other_11 (m : MsgP) (w : World) : Calls Tryz.prog 114 #[.int .u8 11] w fun e w' => ∃ fv, e = .returned fv ∧ Mods [] w w' ∧ IsField m 11 fv [] := field114_11 m w
theorem other_9 (m : MsgP) (w : World) : Calls Tryz.prog 114 #[.int .u8 9] w fun e w' => ∃ fv, e = .returned fv ∧ Mods [] w w' ∧ IsField m 9 fv [] := by
  go_enter Tryz.func114, Tryz.ntmps114
  go_wp2_with fail
  refine (field183_9 m _).mono ?_; rintro e w1 ⟨fv, rfl, hm, hf⟩
  have HM := Lib.hid (((Mods.refl [] w).alloc _).trans hm (by simp))
  have hb := hm.heap (heap_alloc_new w _) (by simp)
  generalize hp : w.heap.size = p at *
  have d0 : w1.cell? ⟨p, 0, none⟩ = some (.string ⟨#[]⟩) := by rw [cell_of_row _ _ _ _ _ _ hb]; rfl
  have d1 : w1.cell? ⟨p, 1, none⟩ = some .nilFunc := by rw [cell_of_row _ _ _ _ _ _ hb]; rfl
  have d2 : w1.cell? ⟨p, 2, none⟩ = some .nilFunc := by rw [cell_of_row _ _ _ _ _ _ hb]; rfl
  have d3 : w1.cell? ⟨p, 3, none⟩ = some .nilFunc := by rw [cell_of_row _ _ _ _ _ _ hb]; rfl
  have d4 : w1.cell? ⟨p, 4, none⟩ = some .nilFunc := by rw [cell_of_row _ _ _ _ _ _ hb]; rfl
  have d5 : w1.cell? ⟨p, 5, none⟩ = some .nilFunc := by rw [cell_of_row _ _ _ _ _ _ hb]; rfl
  have d6 : w1.cell? ⟨p, 6, none⟩ = some .nilFunc := by rw [cell_of_row _ _ _ _ _ _ hb]; rfl
  have f0 : w1.frozen? ⟨p, 0, none⟩ = false := frozen_of_row _ _ _ _ _ hb
  have f1 : w1.frozen? ⟨p, 1, none⟩ = false := frozen_of_row _ _ _ _ _ hb
  have f2 : w1.frozen? ⟨p, 2, none⟩ = false := frozen_of_row _ _ _ _ _ hb
  have f3 : w1.frozen? ⟨p, 3, none⟩ = false := frozen_of_row _ _ _ _ _ hb
  have f4 : w1.frozen? ⟨p, 4, none⟩ = false := frozen_of_row _ _ _ _ _ hb
  have f5 : w1.frozen? ⟨p, 5, none⟩ = false := frozen_of_row _ _ _ _ _ hb
  have f6 : w1.frozen? ⟨p, 6, none⟩ = false := frozen_of_row _ _ _ _ _ hb
  obtain ⟨word, k1, c1, k2, c2, k3, c3, k4, c4, k5, c5, k6, c6, rfl, hw⟩ := hf
  have HW := Lib.hid hw
  clear hb hm hw
  go_wp2_with fail
  refine bodyPost_ret (v := .agg #[.string word, .func (.func k1) #[] c1, .func (.func k2) #[] c2, .func (.func k3) #[] c3, .func (.func k4) #[] c4, .func (.func k5) #[] c5, .func (.func k6) #[] c6]) (by simp [results, Tryz.results114, go_sem, d0, d1, d2, d3, d4, d5, d6]) rfl ?_
  have hmm := fun i u w' (h : Mods [] w w') => h.setCell (p := ⟨p, i, none⟩) (Or.inr (by show w.heap.size ≤ p; omega)) u
  exact ⟨_, rfl, hmm _ _ _ (hmm _ _ _ (hmm _ _ _ (hmm _ _ _ (hmm _ _ _ (hmm _ _ _ (hmm _ _ _ HM.out)))))), word, k1, c1, k2, c2, k3, c3, k4, c4, k5, c5, k6, c6, rfl, HW.out⟩
theorem other_10 (m : MsgP) (w : World) : Calls Tryz.prog 114 #[.int .u8 10] w fun e w' => ∃ fv, e = .returned fv ∧ Mods [] w w' ∧ IsField m 10 fv [] := by
  go_enter Tryz.func114, Tryz.ntmps114
  go_wp2_with fail
  refine (field183_10 m _).mono ?_; rintro e w1 ⟨fv, rfl, hm, hf⟩
  have HM := Lib.hid (((Mods.refl [] w).alloc _).trans hm (by simp))
  have hb := hm.heap (heap_alloc_new w _) (by simp)
  generalize hp : w.heap.size = p at *
  have d0 : w1.cell? ⟨p, 0, none⟩ = some (.string ⟨#[]⟩) := by rw [cell_of_row _ _ _ _ _ _ hb]; rfl
  have d1 : w1.cell? ⟨p, 1, none⟩ = some .nilFunc := by rw [cell_of_row _ _ _ _ _ _ hb]; rfl
  have d2 : w1.cell? ⟨p, 2, none⟩ = some .nilFunc := by rw [cell_of_row _ _ _ _ _ _ hb]; rfl
  have d3 : w1.cell? ⟨p, 3, none⟩ = some .nilFunc := by rw [cell_of_row _ _ _ _ _ _ hb]; rfl
  have d4 : w1.cell? ⟨p, 4, none⟩ = some .nilFunc := by rw [cell_of_row _ _ _ _ _ _ hb]; rfl
  have d5 : w1.cell? ⟨p, 5, none⟩ = some .nilFunc := by rw [cell_of_row _ _ _ _ _ _ hb]; rfl
  have d6 : w1.cell? ⟨p, 6, none⟩ = some .nilFunc := by rw [cell_of_row _ _ _ _ _ _ hb]; rfl
  have f0 : w1.frozen? ⟨p, 0, none⟩ = false := frozen_of_row _ _ _ _ _ hb
  have f1 : w1.frozen? ⟨p, 1, none⟩ = false := frozen_of_row _ _ _ _ _ hb
  have f2 : w1.frozen? ⟨p, 2, none⟩ = false := frozen_of_row _ _ _ _ _ hb
  have f3 : w1.frozen? ⟨p, 3, none⟩ = false := frozen_of_row _ _ _ _ _ hb
  have f4 : w1.frozen? ⟨p, 4, none⟩ = false := frozen_of_row _ _ _ _ _ hb
  have f5 : w1.frozen? ⟨p, 5, none⟩ = false := frozen_of_row _ _ _ _ _ hb
  have f6 : w1.frozen? ⟨p, 6, none⟩ = false := frozen_of_row _ _ _ _ _ hb
  obtain ⟨word, k1, c1, k2, c2, k3, c3, k4, c4, k5, c5, k6, c6, rfl, hw⟩ := hf
  have HW := Lib.hid hw
  clear hb hm hw
  go_wp2_with fail
  refine bodyPost_ret (v := .agg #[.string word, .func (.func k1) #[] c1, .func (.func k2) #[] c2, .func (.func k3) #[] c3, .func (.func k4) #[] c4, .func (.func k5) #[] c5, .func (.func k6) #[] c6]) (by simp [results, Tryz.results114, go_sem, d0, d1, d2, d3, d4, d5, d6]) rfl ?_
  have hmm := fun i u w' (h : Mods [] w w') => h.setCell (p := ⟨p, i, none⟩) (Or.inr (by show w.heap.size ≤ p; omega)) u
  exact ⟨_, rfl, hmm _ _ _ (hmm _ _ _ (hmm _ _ _ (hmm _ _ _ (hmm _ _ _ (hmm _ _ _ (hmm _ _ _ HM.out)))))), word, k1, c1, k2, c2, k3, c3, k4, c4, k5, c5, k6, c6, rfl, HW.out⟩
theorem other_19 (m : MsgP) (w : World) : Calls Tryz.prog 114 #[.int .u8 19] w fun e w' => ∃ fv, e = .returned fv ∧ Mods [] w w' ∧ IsField m 19 fv [] := by
  go_enter Tryz.func114, Tryz.ntmps114
  go_wp2_with fail
  refine (field183_19 m _).mono ?_; rintro e w1 ⟨fv, rfl, hm, hf⟩
  have HM := Lib.hid (((Mods.refl [] w).alloc _).trans hm (by simp))
  have hb := hm.heap (heap_alloc_new w _) (by simp)
  generalize hp : w.heap.size = p at *
  have d0 : w1.cell? ⟨p, 0, none⟩ = some (.string ⟨#[]⟩) := by rw [cell_of_row _ _ _ _ _ _ hb]; rfl
  have d1 : w1.cell? ⟨p, 1, none⟩ = some .nilFunc := by rw [cell_of_row _ _ _ _ _ _ hb]; rfl
  have d2 : w1.cell? ⟨p, 2, none⟩ = some .nilFunc := by rw [cell_of_row _ _ _ _ _ _ hb]; rfl
  have d3 : w1.cell? ⟨p, 3, none⟩ = some .nilFunc := by rw [cell_of_row _ _ _ _ _ _ hb]; rfl
  have d4 : w1.cell? ⟨p, 4, none⟩ = some .nilFunc := by rw [cell_of_row _ _ _ _ _ _ hb]; rfl
  have d5 : w1.cell? ⟨p, 5, none⟩ = some .nilFunc := by rw [cell_of_row _ _ _ _ _ _ hb]; rfl
  have d6 : w1.cell? ⟨p, 6, none⟩ = some .nilFunc := by rw [cell_of_row _ _ _ _ _ _ hb]; rfl
  have f0 : w1.frozen? ⟨p, 0, none⟩ = false := frozen_of_row _ _ _ _ _ hb
  have f1 : w1.frozen? ⟨p, 1, none⟩ = false := frozen_of_row _ _ _ _ _ hb
  have f2 : w1.frozen? ⟨p, 2, none⟩ = false := frozen_of_row _ _ _ _ _ hb
  have f3 : w1.frozen? ⟨p, 3, none⟩ = false := frozen_of_row _ _ _ _ _ hb
  have f4 : w1.frozen? ⟨p, 4, none⟩ = false := frozen_of_row _ _ _ _ _ hb
  have f5 : w1.frozen? ⟨p, 5, none⟩ = false := frozen_of_row _ _ _ _ _ hb
  have f6 : w1.frozen? ⟨p, 6, none⟩ = false := frozen_of_row _ _ _ _ _ hb
  obtain ⟨word, k1, c1, k2, c2, k3, c3, k4, c4, k5, c5, k6, c6, rfl, hw⟩ := hf
  have HW := Lib.hid hw
  clear hb hm hw
  go_wp2_with fail
  refine bodyPost_ret (v := .agg #[.string word, .func (.func k1) #[] c1, .func (.func k2) #[] c2, .func (.func k3) #[] c3, .func (.func k4) #[] c4, .func (.func k5) #[] c5, .func (.func k6) #[] c6]) (by simp [results, Tryz.results114, go_sem, d0, d1, d2, d3, d4, d5, d6]) rfl ?_
  have hmm := fun i u w' (h : Mods [] w w') => h.setCell (p := ⟨p, i, none⟩) (Or.inr (by show w.heap.size ≤ p; omega)) u
  exact ⟨_, rfl, hmm _ _ _ (hmm _ _ _ (hmm _ _ _ (hmm _ _ _ (hmm _ _ _ (hmm _ _ _ (hmm _ _ _ HM.out)))))), word, k1, c1, k2, c2, k3, c3, k4, c4, k5, c5, k6, c6, rfl, HW.out⟩
end Go.Proofs.YtlgoeipgmjcboaaGreatDoor
namespace Go.Proofs.YtlgoeipgmjcboaaGreatDoor
open Go.RowKit Me

theorem cell_set_other {w : World} {p c i : Nat} {u : Value} (h : p ≠ c) : (w.setCell ⟨p, i, none⟩ u).cell? ⟨c, 0, none⟩ = w.cell? ⟨c, 0, none⟩ :=
  World.cell?_of_block (Below.heap_setCell w ⟨p, i, none⟩ u c (fun e => h e.symm))

theorem field75_0 (m : MsgP) (w : World) : Calls Tryz.prog 75 #[.int .u8 0] w fun e w' => ∃ fv cs, e = .returned fv ∧ Mods [] w w' ∧ IsField m 0 fv cs ∧ ∀ e ∈ cs, w'.cell? ⟨e.1, 0, none⟩ = some e.2 := by
  go_enter Tryz.func75, Tryz.ntmps75
  go_wp2_with fail
  refine (fieldNumber_any _ 101 _).mono ?_; rintro e w1 ⟨c, rfl, hm, hc⟩
  have HM := Lib.hid (((Mods.refl [] w).alloc _).trans hm (by simp))
  have hb := hm.heap (heap_alloc_new w _) (by simp)
  generalize hp : w.heap.size = p at *
  have d0 : w1.cell? ⟨p, 0, none⟩ = some (.string ⟨#[]⟩) := by rw [cell_of_row _ _ _ _ _ _ hb]; rfl
  have d1 : w1.cell? ⟨p, 1, none⟩ = some .nilFunc := by rw [cell_of_row _ _ _ _ _ _ hb]; rfl
  have d2 : w1.cell? ⟨p, 2, none⟩ = some .nilFunc := by rw [cell_of_row _ _ _ _ _ _ hb]; rfl
  have d3 : w1.cell? ⟨p, 3, none⟩ = some .nilFunc := by rw [cell_of_row _ _ _ _ _ _ hb]; rfl
  have d4 : w1.cell? ⟨p, 4, none⟩ = some .nilFunc := by rw [cell_of_row _ _ _ _ _ _ hb]; rfl
  have d5 : w1.cell? ⟨p, 5, none⟩ = some .nilFunc := by rw [cell_of_row _ _ _ _ _ _ hb]; rfl
  have d6 : w1.cell? ⟨p, 6, none⟩ = some .nilFunc := by rw [cell_of_row _ _ _ _ _ _ hb]; rfl
  have f0 : w1.frozen? ⟨p, 0, none⟩ = false := frozen_of_row _ _ _ _ _ hb
  have f1 : w1.frozen? ⟨p, 1, none⟩ = false := frozen_of_row _ _ _ _ _ hb
  have f2 : w1.frozen? ⟨p, 2, none⟩ = false := frozen_of_row _ _ _ _ _ hb
  have f3 : w1.frozen? ⟨p, 3, none⟩ = false := frozen_of_row _ _ _ _ _ hb
  have f4 : w1.frozen? ⟨p, 4, none⟩ = false := frozen_of_row _ _ _ _ _ hb
  have f5 : w1.frozen? ⟨p, 5, none⟩ = false := frozen_of_row _ _ _ _ _ hb
  have f6 : w1.frozen? ⟨p, 6, none⟩ = false := frozen_of_row _ _ _ _ _ hb
  have HNE : Hid (p ≠ c) := Lib.hid (fun e => by rw [← e, d0] at hc; cases hc)
  have HC := Lib.hid hc
  clear hc
  clear hb hm
  go_wp2_with fail
  refine bodyPost_ret (v := .agg #[.string ⟨#[109, 115, 105, 122, 101]⟩, .func (.func 126) #[] #[], .func (.func 127) #[] #[.pointer (some ⟨c, 0, none⟩)], .func (.func 128) #[] #[.pointer (some ⟨c, 0, none⟩)], .func (.func 130) #[] #[.pointer (some ⟨c, 0, none⟩)], .func (.func 131) #[] #[.pointer (some ⟨c, 0, none⟩)], .func (.func 133) #[] #[.pointer (some ⟨c, 0, none⟩)]]) (by simp [results, Tryz.results75, go_sem, d0, d1, d2, d3, d4, d5, d6]) rfl ?_
  have hmm := fun i u w' (h : Mods [] w w') => h.setCell (p := ⟨p, i, none⟩) (Or.inr (by show w.heap.size ≤ p; omega)) u
  refine ⟨_, [(c, .func (.func 101) #[] #[])], rfl, hmm _ _ _ (hmm _ _ _ (hmm _ _ _ (hmm _ _ _ (hmm _ _ _ (hmm _ _ _ (hmm _ _ _ HM.out)))))), ?_, ?_⟩
  · exact ⟨_, _, _, _, _, _, _, _, _, _, _, _, _, rfl, fun w2 h2 => ⟨alwaysC m 0 rfl _, numC m 0 2 at101 c m.msize (h2 (c, .func (.func 101) #[] #[]) (by simp)) (fun _ _ _ => rfl) (fun h => h.msize) (fun _ => rfl)⟩⟩
  · intro e he
    simp only [List.mem_singleton] at he
    subst he
    simp only [cell_set_other HNE.out]
    exact HC.out
theorem field75_2 (m : MsgP) (w : World) : Calls Tryz.prog 75 #[.int .u8 2] w fun e w' => ∃ fv cs, e = .returned fv ∧ Mods [] w w' ∧ IsField m 2 fv cs ∧ ∀ e ∈ cs, w'.cell? ⟨e.1, 0, none⟩ = some e.2 := by
  go_enter Tryz.func75, Tryz.ntmps75
  go_wp2_with fail
  refine (fieldNumber_any _ 102 _).mono ?_; rintro e w1 ⟨c, rfl, hm, hc⟩
  have HM := Lib.hid (((Mods.refl [] w).alloc _).trans hm (by simp))
  have hb := hm.heap (heap_alloc_new w _) (by simp)
  generalize hp : w.heap.size = p at *
  have d0 : w1.cell? ⟨p, 0, none⟩ = some (.string ⟨#[]⟩) := by rw [cell_of_row _ _ _ _ _ _ hb]; rfl
  have d1 : w1.cell? ⟨p, 1, none⟩ = some .nilFunc := by rw [cell_of_row _ _ _ _ _ _ hb]; rfl
  have d2 : w1.cell? ⟨p, 2, none⟩ = some .nilFunc := by rw [cell_of_row _ _ _ _ _ _ hb]; rfl
  have d3 : w1.cell? ⟨p, 3, none⟩ = some .nilFunc := by rw [cell_of_row _ _ _ _ _ _ hb]; rfl
  have d4 : w1.cell? ⟨p, 4, none⟩ = some .nilFunc := by rw [cell_of_row _ _ _ _ _ _ hb]; rfl
  have d5 : w1.cell? ⟨p, 5, none⟩ = some .nilFunc := by rw [cell_of_row _ _ _ _ _ _ hb]; rfl
  have d6 : w1.cell? ⟨p, 6, none⟩ = some .nilFunc := by rw [cell_of_row _ _ _ _ _ _ hb]; rfl
  have f0 : w1.frozen? ⟨p, 0, none⟩ = false := frozen_of_row _ _ _ _ _ hb
  have f1 : w1.frozen? ⟨p, 1, none⟩ = false := frozen_of_row _ _ _ _ _ hb
  have f2 : w1.frozen? ⟨p, 2, none⟩ = false := frozen_of_row _ _ _ _ _ hb
  have f3 : w1.frozen? ⟨p, 3, none⟩ = false := frozen_of_row _ _ _ _ _ hb
  have f4 : w1.frozen? ⟨p, 4, none⟩ = false := frozen_of_row _ _ _ _ _ hb
  have f5 : w1.frozen? ⟨p, 5, none⟩ = false := frozen_of_row _ _ _ _ _ hb
  have f6 : w1.frozen? ⟨p, 6, none⟩ = false := frozen_of_row _ _ _ _ _ hb
  have HNE : Hid (p ≠ c) := Lib.hid (fun e => by rw [← e, d0] at hc; cases hc)
  have HC := Lib.hid hc
  clear hc
  clear hb hm
  go_wp2_with fail
  refine bodyPost_ret (v := .agg #[.string ⟨#[97, 102, 105, 100]⟩, .func (.func 126) #[] #[], .func (.func 127) #[] #[.pointer (some ⟨c, 0, none⟩)], .func (.func 128) #[] #[.pointer (some ⟨c, 0, none⟩)], .func (.func 130) #[] #[.pointer (some ⟨c, 0, none⟩)], .func (.func 131) #[] #[.pointer (some ⟨c, 0, none⟩)], .func (.func 133) #[] #[.pointer (some ⟨c, 0, none⟩)]]) (by simp [results, Tryz.results75, go_sem, d0, d1, d2, d3, d4, d5, d6]) rfl ?_
  have hmm := fun i u w' (h : Mods [] w w') => h.setCell (p := ⟨p, i, none⟩) (Or.inr (by show w.heap.size ≤ p; omega)) u
  refine ⟨_, [(c, .func (.func 102) #[] #[])], rfl, hmm _ _ _ (hmm _ _ _ (hmm _ _ _ (hmm _ _ _ (hmm _ _ _ (hmm _ _ _ (hmm _ _ _ HM.out)))))), ?_, ?_⟩
  · exact ⟨_, _, _, _, _, _, _, _, _, _, _, _, _, rfl, fun w2 h2 => ⟨alwaysC m 2 rfl _, numC m 2 4 at102 c m.afid (h2 (c, .func (.func 102) #[] #[]) (by simp)) (fun _ _ _ => rfl) (fun h => h.afid) (fun _ => rfl)⟩⟩
  · intro e he
    simp only [List.mem_singleton] at he
    subst he
    simp only [cell_set_other HNE.out]
    exact HC.out
theorem field75_7 (m : MsgP) (w : World) : Calls Tryz.prog 75 #[.int .u8 7] w fun e w' => ∃ fv cs, e = .returned fv ∧ Mods [] w w' ∧ IsField m 7 fv cs ∧ ∀ e ∈ cs, w'.cell? ⟨e.1, 0, none⟩ = some e.2 := by
  go_enter Tryz.func75, Tryz.ntmps75
  go_wp2_with fail
  refine (fieldNumber_any _ 103 _).mono ?_; rintro e w1 ⟨c, rfl, hm, hc⟩
  have HM := Lib.hid (((Mods.refl [] w).alloc _).trans hm (by simp))
  have hb := hm.heap (heap_alloc_new w _) (by simp)
  generalize hp : w.heap.size = p at *
  have d0 : w1.cell? ⟨p, 0, none⟩ = some (.string ⟨#[]⟩) := by rw [cell_of_row _ _ _ _ _ _ hb]; rfl
  have d1 : w1.cell? ⟨p, 1, none⟩ = some .nilFunc := by rw [cell_of_row _ _ _ _ _ _ hb]; rfl
  have d2 : w1.cell? ⟨p, 2, none⟩ = some .nilFunc := by rw [cell_of_row _ _ _ _ _ _ hb]; rfl
  have d3 : w1.cell? ⟨p, 3, none⟩ = some .nilFunc := by rw [cell_of_row _ _ _ _ _ _ hb]; rfl
  have d4 : w1.cell? ⟨p, 4, none⟩ = some .nilFunc := by rw [cell_of_row _ _ _ _ _ _ hb]; rfl
  have d5 : w1.cell? ⟨p, 5, none⟩ = some .nilFunc := by rw [cell_of_row _ _ _ _ _ _ hb]; rfl
  have d6 : w1.cell? ⟨p, 6, none⟩ = some .nilFunc := by rw [cell_of_row _ _ _ _ _ _ hb]; rfl
  have f0 : w1.frozen? ⟨p, 0, none⟩ = false := frozen_of_row _ _ _ _ _ hb
  have f1 : w1.frozen? ⟨p, 1, none⟩ = false := frozen_of_row _ _ _ _ _ hb
  have f2 : w1.frozen? ⟨p, 2, none⟩ = false := frozen_of_row _ _ _ _ _ hb
  have f3 : w1.frozen? ⟨p, 3, none⟩ = false := frozen_of_row _ _ _ _ _ hb
  have f4 : w1.frozen? ⟨p, 4, none⟩ = false := frozen_of_row _ _ _ _ _ hb
  have f5 : w1.frozen? ⟨p, 5, none⟩ = false := frozen_of_row _ _ _ _ _ hb
  have f6 : w1.frozen? ⟨p, 6, none⟩ = false := frozen_of_row _ _ _ _ _ hb
  have HNE : Hid (p ≠ c) := Lib.hid (fun e => by rw [← e, d0] at hc; cases hc)
  have HC := Lib.hid hc
  clear hc
  clear hb hm
  go_wp2_with fail
  refine bodyPost_ret (v := .agg #[.string ⟨#[102, 105, 100]⟩, .func (.func 126) #[] #[], .func (.func 127) #[] #[.pointer (some ⟨c, 0, none⟩)], .func (.func 128) #[] #[.pointer (some ⟨c, 0, none⟩)], .func (.func 130) #[] #[.pointer (some ⟨c, 0, none⟩)], .func (.func 131) #[] #[.pointer (some ⟨c, 0, none⟩)], .func (.func 133) #[] #[.pointer (some ⟨c, 0, none⟩)]]) (by simp [results, Tryz.results75, go_sem, d0, d1, d2, d3, d4, d5, d6]) rfl ?_
  have hmm := fun i u w' (h : Mods [] w w') => h.setCell (p := ⟨p, i, none⟩) (Or.inr (by show w.heap.size ≤ p; omega)) u
  refine ⟨_, [(c, .func (.func 103) #[] #[])], rfl, hmm _ _ _ (hmm _ _ _ (hmm _ _ _ (hmm _ _ _ (hmm _ _ _ (hmm _ _ _ (hmm _ _ _ HM.out)))))), ?_, ?_⟩
  · exact ⟨_, _, _, _, _, _, _, _, _, _, _, _, _, rfl, fun w2 h2 => ⟨alwaysC m 7 rfl _, numC m 7 9 at103 c m.fid (h2 (c, .func (.func 103) #[] #[]) (by simp)) (fun _ _ _ => rfl) (fun h => h.fid) (fun _ => rfl)⟩⟩
  · intro e he
    simp only [List.mem_singleton] at he
    subst he
    simp only [cell_set_other HNE.out]
    exact HC.out
theorem field75_8 (m : MsgP) (w : World) : Calls Tryz.prog 75 #[.int .u8 8] w fun e w' => ∃ fv cs, e = .returned fv ∧ Mods [] w w' ∧ IsField m 8 fv cs ∧ ∀ e ∈ cs, w'.cell? ⟨e.1, 0, none⟩ = some e.2 := by
  go_enter Tryz.func75, Tryz.ntmps75
  go_wp2_with fail
  refine (fieldNumber_any _ 104 _).mono ?_; rintro e w1 ⟨c, rfl, hm, hc⟩
  have HM := Lib.hid (((Mods.refl [] w).alloc _).trans hm (by simp))
  have hb := hm.heap (heap_alloc_new w _) (by simp)
  generalize hp : w.heap.size = p at *
  have d0 : w1.cell? ⟨p, 0, none⟩ = some (.string ⟨#[]⟩) := by rw [cell_of_row _ _ _ _ _ _ hb]; rfl
  have d1 : w1.cell? ⟨p, 1, none⟩ = some .nilFunc := by rw [cell_of_row _ _ _ _ _ _ hb]; rfl
  have d2 : w1.cell? ⟨p, 2, none⟩ = some .nilFunc := by rw [cell_of_row _ _ _ _ _ _ hb]; rfl
  have d3 : w1.cell? ⟨p, 3, none⟩ = some .nilFunc := by rw [cell_of_row _ _ _ _ _ _ hb]; rfl
  have d4 : w1.cell? ⟨p, 4, none⟩ = some .nilFunc := by rw [cell_of_row _ _ _ _ _ _ hb]; rfl
  have d5 : w1.cell? ⟨p, 5, none⟩ = some .nilFunc := by rw [cell_of_row _ _ _ _ _ _ hb]; rfl
  have d6 : w1.cell? ⟨p, 6, none⟩ = some .nilFunc := by rw [cell_of_row _ _ _ _ _ _ hb]; rfl
  have f0 : w1.frozen? ⟨p, 0, none⟩ = false := frozen_of_row _ _ _ _ _ hb
  have f1 : w1.frozen? ⟨p, 1, none⟩ = false := frozen_of_row _ _ _ _ _ hb
  have f2 : w1.frozen? ⟨p, 2, none⟩ = false := frozen_of_row _ _ _ _ _ hb
  have f3 : w1.frozen? ⟨p, 3, none⟩ = false := frozen_of_row _ _ _ _ _ hb
  have f4 : w1.frozen? ⟨p, 4, none⟩ = false := frozen_of_row _ _ _ _ _ hb
  have f5 : w1.frozen? ⟨p, 5, none⟩ = false := frozen_of_row _ _ _ _ _ hb
  have f6 : w1.frozen? ⟨p, 6, none⟩ = false := frozen_of_row _ _ _ _ _ hb
  have HNE : Hid (p ≠ c) := Lib.hid (fun e => by rw [← e, d0] at hc; cases hc)
  have HC := Lib.hid hc
  clear hc
  clear hb hm
  go_wp2_with fail
  refine bodyPost_ret (v := .agg #[.string ⟨#[110, 101, 119, 102, 105, 100]⟩, .func (.func 126) #[] #[], .func (.func 127) #[] #[.pointer (some ⟨c, 0, none⟩)], .func (.func 128) #[] #[.pointer (some ⟨c, 0, none⟩)], .func (.func 130) #[] #[.pointer (some ⟨c, 0, none⟩)], .func (.func 131) #[] #[.pointer (some ⟨c, 0, none⟩)], .func (.func 133) #[] #[.pointer (some ⟨c, 0, none⟩)]]) (by simp [results, Tryz.results75, go_sem, d0, d1, d2, d3, d4, d5, d6]) rfl ?_
  have hmm := fun i u w' (h : Mods [] w w') => h.setCell (p := ⟨p, i, none⟩) (Or.inr (by show w.heap.size ≤ p; omega)) u
  refine ⟨_, [(c, .func (.func 104) #[] #[])], rfl, hmm _ _ _ (hmm _ _ _ (hmm _ _ _ (hmm _ _ _ (hmm _ _ _ (hmm _ _ _ (hmm _ _ _ HM.out)))))), ?_, ?_⟩
  · exact ⟨_, _, _, _, _, _, _, _, _, _, _, _, _, rfl, fun w2 h2 => ⟨alwaysC m 8 rfl _, numC m 8 10 at104 c m.newfid (h2 (c, .func (.func 104) #[] #[]) (by simp)) (fun _ _ _ => rfl) (fun h => h.newfid) (fun _ => rfl)⟩⟩
  · intro e he
    simp only [List.mem_singleton] at he
    subst he
    simp only [cell_set_other HNE.out]
    exact HC.out
theorem field75_13 (m : MsgP) (w : World) : Calls Tryz.prog 75 #[.int .u8 13] w fun e w' => ∃ fv cs, e = .returned fv ∧ Mods [] w w' ∧ IsField m 13 fv cs ∧ ∀ e ∈ cs, w'.cell? ⟨e.1, 0, none⟩ = some e.2 := by
  go_enter Tryz.func75, Tryz.ntmps75
  go_wp2_with fail
  refine (fieldNumber_any _ 105 _).mono ?_; rintro e w1 ⟨c, rfl, hm, hc⟩
  have HM := Lib.hid (((Mods.refl [] w).alloc _).trans hm (by simp))
  have hb := hm.heap (heap_alloc_new w _) (by simp)
  generalize hp : w.heap.size = p at *
  have d0 : w1.cell? ⟨p, 0, none⟩ = some (.string ⟨#[]⟩) := by rw [cell_of_row _ _ _ _ _ _ hb]; rfl
  have d1 : w1.cell? ⟨p, 1, none⟩ = some .nilFunc := by rw [cell_of_row _ _ _ _ _ _ hb]; rfl
  have d2 : w1.cell? ⟨p, 2, none⟩ = some .nilFunc := by rw [cell_of_row _ _ _ _ _ _ hb]; rfl
  have d3 : w1.cell? ⟨p, 3, none⟩ = some .nilFunc := by rw [cell_of_row _ _ _ _ _ _ hb]; rfl
  have d4 : w1.cell? ⟨p, 4, none⟩ = some .nilFunc := by rw [cell_of_row _ _ _ _ _ _ hb]; rfl
  have d5 : w1.cell? ⟨p, 5, none⟩ = some .nilFunc := by rw [cell_of_row _ _ _ _ _ _ hb]; rfl
  have d6 : w1.cell? ⟨p, 6, none⟩ = some .nilFunc := by rw [cell_of_row _ _ _ _ _ _ hb]; rfl
  have f0 : w1.frozen? ⟨p, 0, none⟩ = false := frozen_of_row _ _ _ _ _ hb
  have f1 : w1.frozen? ⟨p, 1, none⟩ = false := frozen_of_row _ _ _ _ _ hb
  have f2 : w1.frozen? ⟨p, 2, none⟩ = false := frozen_of_row _ _ _ _ _ hb
  have f3 : w1.frozen? ⟨p, 3, none⟩ = false := frozen_of_row _ _ _ _ _ hb
  have f4 : w1.frozen? ⟨p, 4, none⟩ = false := frozen_of_row _ _ _ _ _ hb
  have f5 : w1.frozen? ⟨p, 5, none⟩ = false := frozen_of_row _ _ _ _ _ hb
  have f6 : w1.frozen? ⟨p, 6, none⟩ = false := frozen_of_row _ _ _ _ _ hb
  have HNE : Hid (p ≠ c) := Lib.hid (fun e => by rw [← e, d0] at hc; cases hc)
  have HC := Lib.hid hc
  clear hc
  clear hb hm
  go_wp2_with fail
  refine bodyPost_ret (v := .agg #[.string ⟨#[105, 111, 117, 110, 105, 116]⟩, .func (.func 126) #[] #[], .func (.func 127) #[] #[.pointer (some ⟨c, 0, none⟩)], .func (.func 128) #[] #[.pointer (some ⟨c, 0, none⟩)], .func (.func 130) #[] #[.pointer (some ⟨c, 0, none⟩)], .func (.func 131) #[] #[.pointer (some ⟨c, 0, none⟩)], .func (.func 133) #[] #[.pointer (some ⟨c, 0, none⟩)]]) (by simp [results, Tryz.results75, go_sem, d0, d1, d2, d3, d4, d5, d6]) rfl ?_
  have hmm := fun i u w' (h : Mods [] w w') => h.setCell (p := ⟨p, i, none⟩) (Or.inr (by show w.heap.size ≤ p; omega)) u
  refine ⟨_, [(c, .func (.func 105) #[] #[])], rfl, hmm _ _ _ (hmm _ _ _ (hmm _ _ _ (hmm _ _ _ (hmm _ _ _ (hmm _ _ _ (hmm _ _ _ HM.out)))))), ?_, ?_⟩
  · exact ⟨_, _, _, _, _, _, _, _, _, _, _, _, _, rfl, fun w2 h2 => ⟨alwaysC m 13 rfl _, numC m 13 17 at105 c m.iounit (h2 (c, .func (.func 105) #[] #[]) (by simp)) (fun _ _ _ => rfl) (fun h => h.iounit) (fun _ => rfl)⟩⟩
  · intro e he
    simp only [List.mem_singleton] at he
    subst he
    simp only [cell_set_other HNE.out]
    exact HC.out
theorem field75_15 (m : MsgP) (w : World) : Calls Tryz.prog 75 #[.int .u8 15] w fun e w' => ∃ fv cs, e = .returned fv ∧ Mods [] w w' ∧ IsField m 15 fv cs ∧ ∀ e ∈ cs, w'.cell? ⟨e.1, 0, none⟩ = some e.2 := by
  go_enter Tryz.func75, Tryz.ntmps75
  go_wp2_with fail
  refine (fieldNumber_any _ 106 _).mono ?_; rintro e w1 ⟨c, rfl, hm, hc⟩
  have HM := Lib.hid (((Mods.refl [] w).alloc _).trans hm (by simp))
  have hb := hm.heap (heap_alloc_new w _) (by simp)
  generalize hp : w.heap.size = p at *
  have d0 : w1.cell? ⟨p, 0, none⟩ = some (.string ⟨#[]⟩) := by rw [cell_of_row _ _ _ _ _ _ hb]; rfl
  have d1 : w1.cell? ⟨p, 1, none⟩ = some .nilFunc := by rw [cell_of_row _ _ _ _ _ _ hb]; rfl
  have d2 : w1.cell? ⟨p, 2, none⟩ = some .nilFunc := by rw [cell_of_row _ _ _ _ _ _ hb]; rfl
  have d3 : w1.cell? ⟨p, 3, none⟩ = some .nilFunc := by rw [cell_of_row _ _ _ _ _ _ hb]; rfl
  have d4 : w1.cell? ⟨p, 4, none⟩ = some .nilFunc := by rw [cell_of_row _ _ _ _ _ _ hb]; rfl
  have d5 : w1.cell? ⟨p, 5, none⟩ = some .nilFunc := by rw [cell_of_row _ _ _ _ _ _ hb]; rfl
  have d6 : w1.cell? ⟨p, 6, none⟩ = some .nilFunc := by rw [cell_of_row _ _ _ _ _ _ hb]; rfl
  have f0 : w1.frozen? ⟨p, 0, none⟩ = false := frozen_of_row _ _ _ _ _ hb
  have f1 : w1.frozen? ⟨p, 1, none⟩ = false := frozen_of_row _ _ _ _ _ hb
  have f2 : w1.frozen? ⟨p, 2, none⟩ = false := frozen_of_row _ _ _ _ _ hb
  have f3 : w1.frozen? ⟨p, 3, none⟩ = false := frozen_of_row _ _ _ _ _ hb
  have f4 : w1.frozen? ⟨p, 4, none⟩ = false := frozen_of_row _ _ _ _ _ hb
  have f5 : w1.frozen? ⟨p, 5, none⟩ = false := frozen_of_row _ _ _ _ _ hb
  have f6 : w1.frozen? ⟨p, 6, none⟩ = false := frozen_of_row _ _ _ _ _ hb
  have HNE : Hid (p ≠ c) := Lib.hid (fun e => by rw [← e, d0] at hc; cases hc)
  have HC := Lib.hid hc
  clear hc
  clear hb hm
  go_wp2_with fail
  refine bodyPost_ret (v := .agg #[.string ⟨#[112, 101, 114, 109]⟩, .func (.func 126) #[] #[], .func (.func 127) #[] #[.pointer (some ⟨c, 0, none⟩)], .func (.func 128) #[] #[.pointer (some ⟨c, 0, none⟩)], .func (.func 130) #[] #[.pointer (some ⟨c, 0, none⟩)], .func (.func 131) #[] #[.pointer (some ⟨c, 0, none⟩)], .func (.func 133) #[] #[.pointer (some ⟨c, 0, none⟩)]]) (by simp [results, Tryz.results75, go_sem, d0, d1, d2, d3, d4, d5, d6]) rfl ?_
  have hmm := fun i u w' (h : Mods [] w w') => h.setCell (p := ⟨p, i, none⟩) (Or.inr (by show w.heap.size ≤ p; omega)) u
  refine ⟨_, [(c, .func (.func 106) #[] #[])], rfl, hmm _ _ _ (hmm _ _ _ (hmm _ _ _ (hmm _ _ _ (hmm _ _ _ (hmm _ _ _ (hmm _ _ _ HM.out)))))), ?_, ?_⟩
  · exact ⟨_, _, _, _, _, _, _, _, _, _, _, _, _, rfl, fun w2 h2 => ⟨alwaysC m 15 rfl _, numC m 15 19 at106 c m.perm (h2 (c, .func (.func 106) #[] #[]) (by simp)) (fun _ _ _ => rfl) (fun h => h.perm) (fun _ => rfl)⟩⟩
  · intro e he
    simp only [List.mem_singleton] at he
    subst he
    simp only [cell_set_other HNE.out]
    exact HC.out
theorem field75_17 (m : MsgP) (w : World) : Calls Tryz.prog 75 #[.int .u8 17] w fun e w' => ∃ fv cs, e = .returned fv ∧ Mods [] w w' ∧ IsField m 17 fv cs ∧ ∀ e ∈ cs, w'.cell? ⟨e.1, 0, none⟩ = some e.2 := by
  go_enter Tryz.func75, Tryz.ntmps75
  go_wp2_with fail
  refine (fieldNumber_any _ 107 _).mono ?_; rintro e w1 ⟨c, rfl, hm, hc⟩
  have HM := Lib.hid (((Mods.refl [] w).alloc _).trans hm (by simp))
  have hb := hm.heap (heap_alloc_new w _) (by simp)
  generalize hp : w.heap.size = p at *
  have d0 : w1.cell? ⟨p, 0, none⟩ = some (.string ⟨#[]⟩) := by rw [cell_of_row _ _ _ _ _ _ hb]; rfl
  have d1 : w1.cell? ⟨p, 1, none⟩ = some .nilFunc := by rw [cell_of_row _ _ _ _ _ _ hb]; rfl
  have d2 : w1.cell? ⟨p, 2, none⟩ = some .nilFunc := by rw [cell_of_row _ _ _ _ _ _ hb]; rfl
  have d3 : w1.cell? ⟨p, 3, none⟩ = some .nilFunc := by rw [cell_of_row _ _ _ _ _ _ hb]; rfl
  have d4 : w1.cell? ⟨p, 4, none⟩ = some .nilFunc := by rw [cell_of_row _ _ _ _ _ _ hb]; rfl
  have d5 : w1.cell? ⟨p, 5, none⟩ = some .nilFunc := by rw [cell_of_row _ _ _ _ _ _ hb]; rfl
  have d6 : w1.cell? ⟨p, 6, none⟩ = some .nilFunc := by rw [cell_of_row _ _ _ _ _ _ hb]; rfl
  have f0 : w1.frozen? ⟨p, 0, none⟩ = false := frozen_of_row _ _ _ _ _ hb
  have f1 : w1.frozen? ⟨p, 1, none⟩ = false := frozen_of_row _ _ _ _ _ hb
  have f2 : w1.frozen? ⟨p, 2, none⟩ = false := frozen_of_row _ _ _ _ _ hb
  have f3 : w1.frozen? ⟨p, 3, none⟩ = false := frozen_of_row _ _ _ _ _ hb
  have f4 : w1.frozen? ⟨p, 4, none⟩ = false := frozen_of_row _ _ _ _ _ hb
  have f5 : w1.frozen? ⟨p, 5, none⟩ = false := frozen_of_row _ _ _ _ _ hb
  have f6 : w1.frozen? ⟨p, 6, none⟩ = false := frozen_of_row _ _ _ _ _ hb
  have HNE : Hid (p ≠ c) := Lib.hid (fun e => by rw [← e, d0] at hc; cases hc)
  have HC := Lib.hid hc
  clear hc
  clear hb hm
  go_wp2_with fail
  refine bodyPost_ret (v := .agg #[.string ⟨#[99, 111, 117, 110, 116]⟩, .func (.func 126) #[] #[], .func (.func 127) #[] #[.pointer (some ⟨c, 0, none⟩)], .func (.func 128) #[] #[.pointer (some ⟨c, 0, none⟩)], .func (.func 130) #[] #[.pointer (some ⟨c, 0, none⟩)], .func (.func 131) #[] #[.pointer (some ⟨c, 0, none⟩)], .func (.func 133) #[] #[.pointer (some ⟨c, 0, none⟩)]]) (by simp [results, Tryz.results75, go_sem, d0, d1, d2, d3, d4, d5, d6]) rfl ?_
  have hmm := fun i u w' (h : Mods [] w w') => h.setCell (p := ⟨p, i, none⟩) (Or.inr (by show w.heap.size ≤ p; omega)) u
  refine ⟨_, [(c, .func (.func 107) #[] #[])], rfl, hmm _ _ _ (hmm _ _ _ (hmm _ _ _ (hmm _ _ _ (hmm _ _ _ (hmm _ _ _ (hmm _ _ _ HM.out)))))), ?_, ?_⟩
  · exact ⟨_, _, _, _, _, _, _, _, _, _, _, _, _, rfl, fun w2 h2 => ⟨alwaysC m 17 rfl _, numC m 17 21 at107 c m.count (h2 (c, .func (.func 107) #[] #[]) (by simp)) (fun _ _ _ => rfl) (fun h => h.count) (fun _ => rfl)⟩⟩
  · intro e he
    simp only [List.mem_singleton] at he
    subst he
    simp only [cell_set_other HNE.out]
    exact HC.out
theorem field75_1 (m : MsgP) (w : World) : Calls Tryz.prog 75 #[.int .u8 1] w fun e w' => ∃ fv cs, e = .returned fv ∧ Mods [] w w' ∧ IsField m 1 fv cs ∧ ∀ e ∈ cs, w'.cell? ⟨e.1, 0, none⟩ = some e.2 := by
  go_enter Tryz.func75, Tryz.ntmps75
  go_wp2_with fail
  refine (fieldText_any _ 109 _).mono ?_; rintro e w1 ⟨c, rfl, hm, hc⟩
  have HM := Lib.hid (((Mods.refl [] w).alloc _).trans hm (by simp))
  have hb := hm.heap (heap_alloc_new w _) (by simp)
  generalize hp : w.heap.size = p at *
  have d0 : w1.cell? ⟨p, 0, none⟩ = some (.string ⟨#[]⟩) := by rw [cell_of_row _ _ _ _ _ _ hb]; rfl
  have d1 : w1.cell? ⟨p, 1, none⟩ = some .nilFunc := by rw [cell_of_row _ _ _ _ _ _ hb]; rfl
  have d2 : w1.cell? ⟨p, 2, none⟩ = some .nilFunc := by rw [cell_of_row _ _ _ _ _ _ hb]; rfl
  have d3 : w1.cell? ⟨p, 3, none⟩ = some .nilFunc := by rw [cell_of_row _ _ _ _ _ _ hb]; rfl
  have d4 : w1.cell? ⟨p, 4, none⟩ = some .nilFunc := by rw [cell_of_row _ _ _ _ _ _ hb]; rfl
  have d5 : w1.cell? ⟨p, 5, none⟩ = some .nilFunc := by rw [cell_of_row _ _ _ _ _ _ hb]; rfl
  have d6 : w1.cell? ⟨p, 6, none⟩ = some .nilFunc := by rw [cell_of_row _ _ _ _ _ _ hb]; rfl
  have f0 : w1.frozen? ⟨p, 0, none⟩ = false := frozen_of_row _ _ _ _ _ hb
  have f1 : w1.frozen? ⟨p, 1, none⟩ = false := frozen_of_row _ _ _ _ _ hb
  have f2 : w1.frozen? ⟨p, 2, none⟩ = false := frozen_of_row _ _ _ _ _ hb
  have f3 : w1.frozen? ⟨p, 3, none⟩ = false := frozen_of_row _ _ _ _ _ hb
  have f4 : w1.frozen? ⟨p, 4, none⟩ = false := frozen_of_row _ _ _ _ _ hb
  have f5 : w1.frozen? ⟨p, 5, none⟩ = false := frozen_of_row _ _ _ _ _ hb
  have f6 : w1.frozen? ⟨p, 6, none⟩ = false := frozen_of_row _ _ _ _ _ hb
  have HNE : Hid (p ≠ c) := Lib.hid (fun e => by rw [← e, d0] at hc; cases hc)
  have HC := Lib.hid hc
  clear hc
  clear hb hm
  go_wp2_with fail
  refine bodyPost_ret (v := .agg #[.string ⟨#[118, 101, 114, 115, 105, 111, 110]⟩, .func (.func 135) #[] #[.pointer (some ⟨c, 0, none⟩)], .func (.func 137) #[] #[.pointer (some ⟨c, 0, none⟩)], .func (.func 139) #[] #[.pointer (some ⟨c, 0, none⟩)], .func (.func 141) #[] #[.pointer (some ⟨c, 0, none⟩)], .func (.func 142) #[] #[.pointer (some ⟨c, 0, none⟩)], .func (.func 144) #[] #[.pointer (some ⟨c, 0, none⟩)]]) (by simp [results, Tryz.results75, go_sem, d0, d1, d2, d3, d4, d5, d6]) rfl ?_
  have hmm := fun i u w' (h : Mods [] w w') => h.setCell (p := ⟨p, i, none⟩) (Or.inr (by show w.heap.size ≤ p; omega)) u
  refine ⟨_, [(c, .func (.func 109) #[] #[])], rfl, hmm _ _ _ (hmm _ _ _ (hmm _ _ _ (hmm _ _ _ (hmm _ _ _ (hmm _ _ _ (hmm _ _ _ HM.out)))))), ?_, ?_⟩
  · exact ⟨_, _, _, _, _, _, _, _, _, _, _, _, _, rfl, fun w2 h2 => ⟨txtG m 1 3 at109 c m.version (h2 (c, .func (.func 109) #[] #[]) (by simp)) (fun _ _ _ => rfl) (by simp) rfl, txtC m 1 3 at109 c m.version (h2 (c, .func (.func 109) #[] #[]) (by simp)) (fun _ _ _ => rfl) (by simp) (fun _ => rfl)⟩⟩
  · intro e he
    simp only [List.mem_singleton] at he
    subst he
    simp only [cell_set_other HNE.out]
    exact HC.out
theorem field75_3 (m : MsgP) (w : World) : Calls Tryz.prog 75 #[.int .u8 3] w fun e w' => ∃ fv cs, e = .returned fv ∧ Mods [] w w' ∧ IsField m 3 fv cs ∧ ∀ e ∈ cs, w'.cell? ⟨e.1, 0, none⟩ = some e.2 := by
  go_enter Tryz.func75, Tryz.ntmps75
  go_wp2_with fail
  refine (fieldText_any _ 110 _).mono ?_; rintro e w1 ⟨c, rfl, hm, hc⟩
  have HM := Lib.hid (((Mods.refl [] w).alloc _).trans hm (by simp))
  have hb := hm.heap (heap_alloc_new w _) (by simp)
  generalize hp : w.heap.size = p at *
  have d0 : w1.cell? ⟨p, 0, none⟩ = some (.string ⟨#[]⟩) := by rw [cell_of_row _ _ _ _ _ _ hb]; rfl
  have d1 : w1.cell? ⟨p, 1, none⟩ = some .nilFunc := by rw [cell_of_row _ _ _ _ _ _ hb]; rfl
  have d2 : w1.cell? ⟨p, 2, none⟩ = some .nilFunc := by rw [cell_of_row _ _ _ _ _ _ hb]; rfl
  have d3 : w1.cell? ⟨p, 3, none⟩ = some .nilFunc := by rw [cell_of_row _ _ _ _ _ _ hb]; rfl
  have d4 : w1.cell? ⟨p, 4, none⟩ = some .nilFunc := by rw [cell_of_row _ _ _ _ _ _ hb]; rfl
  have d5 : w1.cell? ⟨p, 5, none⟩ = some .nilFunc := by rw [cell_of_row _ _ _ _ _ _ hb]; rfl
  have d6 : w1.cell? ⟨p, 6, none⟩ = some .nilFunc := by rw [cell_of_row _ _ _ _ _ _ hb]; rfl
  have f0 : w1.frozen? ⟨p, 0, none⟩ = false := frozen_of_row _ _ _ _ _ hb
  have f1 : w1.frozen? ⟨p, 1, none⟩ = false := frozen_of_row _ _ _ _ _ hb
  have f2 : w1.frozen? ⟨p, 2, none⟩ = false := frozen_of_row _ _ _ _ _ hb
  have f3 : w1.frozen? ⟨p, 3, none⟩ = false := frozen_of_row _ _ _ _ _ hb
  have f4 : w1.frozen? ⟨p, 4, none⟩ = false := frozen_of_row _ _ _ _ _ hb
  have f5 : w1.frozen? ⟨p, 5, none⟩ = false := frozen_of_row _ _ _ _ _ hb
  have f6 : w1.frozen? ⟨p, 6, none⟩ = false := frozen_of_row _ _ _ _ _ hb
  have HNE : Hid (p ≠ c) := Lib.hid (fun e => by rw [← e, d0] at hc; cases hc)
  have HC := Lib.hid hc
  clear hc
  clear hb hm
  go_wp2_with fail
  refine bodyPost_ret (v := .agg #[.string ⟨#[117, 110, 97, 109, 101]⟩, .func (.func 135) #[] #[.pointer (some ⟨c, 0, none⟩)], .func (.func 137) #[] #[.pointer (some ⟨c, 0, none⟩)], .func (.func 139) #[] #[.pointer (some ⟨c, 0, none⟩)], .func (.func 141) #[] #[.pointer (some ⟨c, 0, none⟩)], .func (.func 142) #[] #[.pointer (some ⟨c, 0, none⟩)], .func (.func 144) #[] #[.pointer (some ⟨c, 0, none⟩)]]) (by simp [results, Tryz.results75, go_sem, d0, d1, d2, d3, d4, d5, d6]) rfl ?_
  have hmm := fun i u w' (h : Mods [] w w') => h.setCell (p := ⟨p, i, none⟩) (Or.inr (by show w.heap.size ≤ p; omega)) u
  refine ⟨_, [(c, .func (.func 110) #[] #[])], rfl, hmm _ _ _ (hmm _ _ _ (hmm _ _ _ (hmm _ _ _ (hmm _ _ _ (hmm _ _ _ (hmm _ _ _ HM.out)))))), ?_, ?_⟩
  · exact ⟨_, _, _, _, _, _, _, _, _, _, _, _, _, rfl, fun w2 h2 => ⟨txtG m 3 5 at110 c m.uname (h2 (c, .func (.func 110) #[] #[]) (by simp)) (fun _ _ _ => rfl) (by simp) rfl, txtC m 3 5 at110 c m.uname (h2 (c, .func (.func 110) #[] #[]) (by simp)) (fun _ _ _ => rfl) (by simp) (fun _ => rfl)⟩⟩
  · intro e he
    simp only [List.mem_singleton] at he
    subst he
    simp only [cell_set_other HNE.out]
    exact HC.out
theorem field75_4 (m : MsgP) (w : World) : Calls Tryz.prog 75 #[.int .u8 4] w fun e w' => ∃ fv cs, e = .returned fv ∧ Mods [] w w' ∧ IsField m 4 fv cs ∧ ∀ e ∈ cs, w'.cell? ⟨e.1, 0, none⟩ = some e.2 := by
  go_enter Tryz.func75, Tryz.ntmps75
  go_wp2_with fail
  refine (fieldText_any _ 111 _).mono ?_; rintro e w1 ⟨c, rfl, hm, hc⟩
  have HM := Lib.hid (((Mods.refl [] w).alloc _).trans hm (by simp))
  have hb := hm.heap (heap_alloc_new w _) (by simp)
  generalize hp : w.heap.size = p at *
  have d0 : w1.cell? ⟨p, 0, none⟩ = some (.string ⟨#[]⟩) := by rw [cell_of_row _ _ _ _ _ _ hb]; rfl
  have d1 : w1.cell? ⟨p, 1, none⟩ = some .nilFunc := by rw [cell_of_row _ _ _ _ _ _ hb]; rfl
  have d2 : w1.cell? ⟨p, 2, none⟩ = some .nilFunc := by rw [cell_of_row _ _ _ _ _ _ hb]; rfl
  have d3 : w1.cell? ⟨p, 3, none⟩ = some .nilFunc := by rw [cell_of_row _ _ _ _ _ _ hb]; rfl
  have d4 : w1.cell? ⟨p, 4, none⟩ = some .nilFunc := by rw [cell_of_row _ _ _ _ _ _ hb]; rfl
  have d5 : w1.cell? ⟨p, 5, none⟩ = some .nilFunc := by rw [cell_of_row _ _ _ _ _ _ hb]; rfl
  have d6 : w1.cell? ⟨p, 6, none⟩ = some .nilFunc := by rw [cell_of_row _ _ _ _ _ _ hb]; rfl
  have f0 : w1.frozen? ⟨p, 0, none⟩ = false := frozen_of_row _ _ _ _ _ hb
  have f1 : w1.frozen? ⟨p, 1, none⟩ = false := frozen_of_row _ _ _ _ _ hb
  have f2 : w1.frozen? ⟨p, 2, none⟩ = false := frozen_of_row _ _ _ _ _ hb
  have f3 : w1.frozen? ⟨p, 3, none⟩ = false := frozen_of_row _ _ _ _ _ hb
  have f4 : w1.frozen? ⟨p, 4, none⟩ = false := frozen_of_row _ _ _ _ _ hb
  have f5 : w1.frozen? ⟨p, 5, none⟩ = false := frozen_of_row _ _ _ _ _ hb
  have f6 : w1.frozen? ⟨p, 6, none⟩ = false := frozen_of_row _ _ _ _ _ hb
  have HNE : Hid (p ≠ c) := Lib.hid (fun e => by rw [← e, d0] at hc; cases hc)
  have HC := Lib.hid hc
  clear hc
  clear hb hm
  go_wp2_with fail
  refine bodyPost_ret (v := .agg #[.string ⟨#[97, 110, 97, 109, 101]⟩, .func (.func 135) #[] #[.pointer (some ⟨c, 0, none⟩)], .func (.func 137) #[] #[.pointer (some ⟨c, 0, none⟩)], .func (.func 139) #[] #[.pointer (some ⟨c, 0, none⟩)], .func (.func 141) #[] #[.pointer (some ⟨c, 0, none⟩)], .func (.func 142) #[] #[.pointer (some ⟨c, 0, none⟩)], .func (.func 144) #[] #[.pointer (some ⟨c, 0, none⟩)]]) (by simp [results, Tryz.results75, go_sem, d0, d1, d2, d3, d4, d5, d6]) rfl ?_
  have hmm := fun i u w' (h : Mods [] w w') => h.setCell (p := ⟨p, i, none⟩) (Or.inr (by show w.heap.size ≤ p; omega)) u
  refine ⟨_, [(c, .func (.func 111) #[] #[])], rfl, hmm _ _ _ (hmm _ _ _ (hmm _ _ _ (hmm _ _ _ (hmm _ _ _ (hmm _ _ _ (hmm _ _ _ HM.out)))))), ?_, ?_⟩
  · exact ⟨_, _, _, _, _, _, _, _, _, _, _, _, _, rfl, fun w2 h2 => ⟨txtG m 4 6 at111 c m.aname (h2 (c, .func (.func 111) #[] #[]) (by simp)) (fun _ _ _ => rfl) (by simp) rfl, txtC m 4 6 at111 c m.aname (h2 (c, .func (.func 111) #[] #[]) (by simp)) (fun _ _ _ => rfl) (by simp) (fun _ => rfl)⟩⟩
  · intro e he
    simp only [List.mem_singleton] at he
    subst he
    simp only [cell_set_other HNE.out]
    exact HC.out
theorem field75_5 (m : MsgP) (w : World) : Calls Tryz.prog 75 #[.int .u8 5] w fun e w' => ∃ fv cs, e = .returned fv ∧ Mods [] w w' ∧ IsField m 5 fv cs ∧ ∀ e ∈ cs, w'.cell? ⟨e.1, 0, none⟩ = some e.2 := by
  go_enter Tryz.func75, Tryz.ntmps75
  go_wp2_with fail
  refine (fieldText_any _ 112 _).mono ?_; rintro e w1 ⟨c, rfl, hm, hc⟩
  have HM := Lib.hid (((Mods.refl [] w).alloc _).trans hm (by simp))
  have hb := hm.heap (heap_alloc_new w _) (by simp)
  generalize hp : w.heap.size = p at *
  have d0 : w1.cell? ⟨p, 0, none⟩ = some (.string ⟨#[]⟩) := by rw [cell_of_row _ _ _ _ _ _ hb]; rfl
  have d1 : w1.cell? ⟨p, 1, none⟩ = some .nilFunc := by rw [cell_of_row _ _ _ _ _ _ hb]; rfl
  have d2 : w1.cell? ⟨p, 2, none⟩ = some .nilFunc := by rw [cell_of_row _ _ _ _ _ _ hb]; rfl
  have d3 : w1.cell? ⟨p, 3, none⟩ = some .nilFunc := by rw [cell_of_row _ _ _ _ _ _ hb]; rfl
  have d4 : w1.cell? ⟨p, 4, none⟩ = some .nilFunc := by rw [cell_of_row _ _ _ _ _ _ hb]; rfl
  have d5 : w1.cell? ⟨p, 5, none⟩ = some .nilFunc := by rw [cell_of_row _ _ _ _ _ _ hb]; rfl
  have d6 : w1.cell? ⟨p, 6, none⟩ = some .nilFunc := by rw [cell_of_row _ _ _ _ _ _ hb]; rfl
  have f0 : w1.frozen? ⟨p, 0, none⟩ = false := frozen_of_row _ _ _ _ _ hb
  have f1 : w1.frozen? ⟨p, 1, none⟩ = false := frozen_of_row _ _ _ _ _ hb
  have f2 : w1.frozen? ⟨p, 2, none⟩ = false := frozen_of_row _ _ _ _ _ hb
  have f3 : w1.frozen? ⟨p, 3, none⟩ = false := frozen_of_row _ _ _ _ _ hb
  have f4 : w1.frozen? ⟨p, 4, none⟩ = false := frozen_of_row _ _ _ _ _ hb
  have f5 : w1.frozen? ⟨p, 5, none⟩ = false := frozen_of_row _ _ _ _ _ hb
  have f6 : w1.frozen? ⟨p, 6, none⟩ = false := frozen_of_row _ _ _ _ _ hb
  have HNE : Hid (p ≠ c) := Lib.hid (fun e => by rw [← e, d0] at hc; cases hc)
  have HC := Lib.hid hc
  clear hc
  clear hb hm
  go_wp2_with fail
  refine bodyPost_ret (v := .agg #[.string ⟨#[101, 110, 97, 109, 101]⟩, .func (.func 135) #[] #[.pointer (some ⟨c, 0, none⟩)], .func (.func 137) #[] #[.pointer (some ⟨c, 0, none⟩)], .func (.func 139) #[] #[.pointer (some ⟨c, 0, none⟩)], .func (.func 141) #[] #[.pointer (some ⟨c, 0, none⟩)], .func (.func 142) #[] #[.pointer (some ⟨c, 0, none⟩)], .func (.func 144) #[] #[.pointer (some ⟨c, 0, none⟩)]]) (by simp [results, Tryz.results75, go_sem, d0, d1, d2, d3, d4, d5, d6]) rfl ?_
  have hmm := fun i u w' (h : Mods [] w w') => h.setCell (p := ⟨p, i, none⟩) (Or.inr (by show w.heap.size ≤ p; omega)) u
  refine ⟨_, [(c, .func (.func 112) #[] #[])], rfl, hmm _ _ _ (hmm _ _ _ (hmm _ _ _ (hmm _ _ _ (hmm _ _ _ (hmm _ _ _ (hmm _ _ _ HM.out)))))), ?_, ?_⟩
  · exact ⟨_, _, _, _, _, _, _, _, _, _, _, _, _, rfl, fun w2 h2 => ⟨txtG m 5 7 at112 c m.ename (h2 (c, .func (.func 112) #[] #[]) (by simp)) (fun _ _ _ => rfl) (by simp) rfl, txtC m 5 7 at112 c m.ename (h2 (c, .func (.func 112) #[] #[]) (by simp)) (fun _ _ _ => rfl) (by simp) (fun _ => rfl)⟩⟩
  · intro e he
    simp only [List.mem_singleton] at he
    subst he
    simp only [cell_set_other HNE.out]
    exact HC.out
theorem field75_14 (m : MsgP) (w : World) : Calls Tryz.prog 75 #[.int .u8 14] w fun e w' => ∃ fv cs, e = .returned fv ∧ Mods [] w w' ∧ IsField m 14 fv cs ∧ ∀ e ∈ cs, w'.cell? ⟨e.1, 0, none⟩ = some e.2 := by
  go_enter Tryz.func75, Tryz.ntmps75
  go_wp2_with fail
  refine (fieldText_any _ 113 _).mono ?_; rintro e w1 ⟨c, rfl, hm, hc⟩
  have HM := Lib.hid (((Mods.refl [] w).alloc _).trans hm (by simp))
  have hb := hm.heap (heap_alloc_new w _) (by simp)
  generalize hp : w.heap.size = p at *
  have d0 : w1.cell? ⟨p, 0, none⟩ = some (.string ⟨#[]⟩) := by rw [cell_of_row _ _ _ _ _ _ hb]; rfl
  have d1 : w1.cell? ⟨p, 1, none⟩ = some .nilFunc := by rw [cell_of_row _ _ _ _ _ _ hb]; rfl
  have d2 : w1.cell? ⟨p, 2, none⟩ = some .nilFunc := by rw [cell_of_row _ _ _ _ _ _ hb]; rfl
  have d3 : w1.cell? ⟨p, 3, none⟩ = some .nilFunc := by rw [cell_of_row _ _ _ _ _ _ hb]; rfl
  have d4 : w1.cell? ⟨p, 4, none⟩ = some .nilFunc := by rw [cell_of_row _ _ _ _ _ _ hb]; rfl
  have d5 : w1.cell? ⟨p, 5, none⟩ = some .nilFunc := by rw [cell_of_row _ _ _ _ _ _ hb]; rfl
  have d6 : w1.cell? ⟨p, 6, none⟩ = some .nilFunc := by rw [cell_of_row _ _ _ _ _ _ hb]; rfl
  have f0 : w1.frozen? ⟨p, 0, none⟩ = false := frozen_of_row _ _ _ _ _ hb
  have f1 : w1.frozen? ⟨p, 1, none⟩ = false := frozen_of_row _ _ _ _ _ hb
  have f2 : w1.frozen? ⟨p, 2, none⟩ = false := frozen_of_row _ _ _ _ _ hb
  have f3 : w1.frozen? ⟨p, 3, none⟩ = false := frozen_of_row _ _ _ _ _ hb
  have f4 : w1.frozen? ⟨p, 4, none⟩ = false := frozen_of_row _ _ _ _ _ hb
  have f5 : w1.frozen? ⟨p, 5, none⟩ = false := frozen_of_row _ _ _ _ _ hb
  have f6 : w1.frozen? ⟨p, 6, none⟩ = false := frozen_of_row _ _ _ _ _ hb
  have HNE : Hid (p ≠ c) := Lib.hid (fun e => by rw [← e, d0] at hc; cases hc)
  have HC := Lib.hid hc
  clear hc
  clear hb hm
  go_wp2_with fail
  refine bodyPost_ret (v := .agg #[.string ⟨#[110, 97, 109, 101]⟩, .func (.func 135) #[] #[.pointer (some ⟨c, 0, none⟩)], .func (.func 137) #[] #[.pointer (some ⟨c, 0, none⟩)], .func (.func 139) #[] #[.pointer (some ⟨c, 0, none⟩)], .func (.func 141) #[] #[.pointer (some ⟨c, 0, none⟩)], .func (.func 142) #[] #[.pointer (some ⟨c, 0, none⟩)], .func (.func 144) #[] #[.pointer (some ⟨c, 0, none⟩)]]) (by simp [results, Tryz.results75, go_sem, d0, d1, d2, d3, d4, d5, d6]) rfl ?_
  have hmm := fun i u w' (h : Mods [] w w') => h.setCell (p := ⟨p, i, none⟩) (Or.inr (by show w.heap.size ≤ p; omega)) u
  refine ⟨_, [(c, .func (.func 113) #[] #[])], rfl, hmm _ _ _ (hmm _ _ _ (hmm _ _ _ (hmm _ _ _ (hmm _ _ _ (hmm _ _ _ (hmm _ _ _ HM.out)))))), ?_, ?_⟩
  · exact ⟨_, _, _, _, _, _, _, _, _, _, _, _, _, rfl, fun w2 h2 => ⟨txtG m 14 18 at113 c m.name (h2 (c, .func (.func 113) #[] #[]) (by simp)) (fun _ _ _ => rfl) (by simp) rfl, txtC m 14 18 at113 c m.name (h2 (c, .func (.func 113) #[] #[]) (by simp)) (fun _ _ _ => rfl) (by simp) (fun _ => rfl)⟩⟩
  · intro e he
    simp only [List.mem_singleton] at he
    subst he
    simp only [cell_set_other HNE.out]
    exact HC.out
theorem field75_6 (m : MsgP) (w : World) : Calls Tryz.prog 75 #[.int .u8 6] w fun e w' => ∃ fv cs, e = .returned fv ∧ Mods [] w w' ∧ IsField m 6 fv cs ∧ ∀ e ∈ cs, w'.cell? ⟨e.1, 0, none⟩ = some e.2 := by
  go_enter Tryz.func75, Tryz.ntmps75
  go_wp2_with fail
  refine (other_6 m _).mono ?_; rintro e w1 ⟨fv, rfl, hm, hf⟩
  have HM := Lib.hid (((Mods.refl [] w).alloc _).trans hm (by simp))
  have hb := hm.heap (heap_alloc_new w _) (by simp)
  generalize hp : w.heap.size = p at *
  have d0 : w1.cell? ⟨p, 0, none⟩ = some (.string ⟨#[]⟩) := by rw [cell_of_row _ _ _ _ _ _ hb]; rfl
  have d1 : w1.cell? ⟨p, 1, none⟩ = some .nilFunc := by rw [cell_of_row _ _ _ _ _ _ hb]; rfl
  have d2 : w1.cell? ⟨p, 2, none⟩ = some .nilFunc := by rw [cell_of_row _ _ _ _ _ _ hb]; rfl
  have d3 : w1.cell? ⟨p, 3, none⟩ = some .nilFunc := by rw [cell_of_row _ _ _ _ _ _ hb]; rfl
  have d4 : w1.cell? ⟨p, 4, none⟩ = some .nilFunc := by rw [cell_of_row _ _ _ _ _ _ hb]; rfl
  have d5 : w1.cell? ⟨p, 5, none⟩ = some .nilFunc := by rw [cell_of_row _ _ _ _ _ _ hb]; rfl
  have d6 : w1.cell? ⟨p, 6, none⟩ = some .nilFunc := by rw [cell_of_row _ _ _ _ _ _ hb]; rfl
  have f0 : w1.frozen? ⟨p, 0, none⟩ = false := frozen_of_row _ _ _ _ _ hb
  have f1 : w1.frozen? ⟨p, 1, none⟩ = false := frozen_of_row _ _ _ _ _ hb
  have f2 : w1.frozen? ⟨p, 2, none⟩ = false := frozen_of_row _ _ _ _ _ hb
  have f3 : w1.frozen? ⟨p, 3, none⟩ = false := frozen_of_row _ _ _ _ _ hb
  have f4 : w1.frozen? ⟨p, 4, none⟩ = false := frozen_of_row _ _ _ _ _ hb
  have f5 : w1.frozen? ⟨p, 5, none⟩ = false := frozen_of_row _ _ _ _ _ hb
  have f6 : w1.frozen? ⟨p, 6, none⟩ = false := frozen_of_row _ _ _ _ _ hb
  obtain ⟨word, k1, c1, k2, c2, k3, c3, k4, c4, k5, c5, k6, c6, rfl, hw⟩ := hf
  have HW := Lib.hid hw
  clear hw
  clear hb hm
  go_wp2_with fail
  refine bodyPost_ret (v := .agg #[.string word, .func (.func k1) #[] c1, .func (.func k2) #[] c2, .func (.func k3) #[] c3, .func (.func k4) #[] c4, .func (.func k5) #[] c5, .func (.func k6) #[] c6]) (by simp [results, Tryz.results75, go_sem, d0, d1, d2, d3, d4, d5, d6]) rfl ?_
  have hmm := fun i u w' (h : Mods [] w w') => h.setCell (p := ⟨p, i, none⟩) (Or.inr (by show w.heap.size ≤ p; omega)) u
  refine ⟨_, [], rfl, hmm _ _ _ (hmm _ _ _ (hmm _ _ _ (hmm _ _ _ (hmm _ _ _ (hmm _ _ _ (hmm _ _ _ HM.out)))))), ?_, ?_⟩
  · exact ⟨word, k1, c1, k2, c2, k3, c3, k4, c4, k5, c5, k6, c6, rfl, HW.out⟩
  · simp
theorem field75_9 (m : MsgP) (w : World) : Calls Tryz.prog 75 #[.int .u8 9] w fun e w' => ∃ fv cs, e = .returned fv ∧ Mods [] w w' ∧ IsField m 9 fv cs ∧ ∀ e ∈ cs, w'.cell? ⟨e.1, 0, none⟩ = some e.2 := by
  go_enter Tryz.func75, Tryz.ntmps75
  go_wp2_with fail
  refine (other_9 m _).mono ?_; rintro e w1 ⟨fv, rfl, hm, hf⟩
  have HM := Lib.hid (((Mods.refl [] w).alloc _).trans hm (by simp))
  have hb := hm.heap (heap_alloc_new w _) (by simp)
  generalize hp : w.heap.size = p at *
  have d0 : w1.cell? ⟨p, 0, none⟩ = some (.string ⟨#[]⟩) := by rw [cell_of_row _ _ _ _ _ _ hb]; rfl
  have d1 : w1.cell? ⟨p, 1, none⟩ = some .nilFunc := by rw [cell_of_row _ _ _ _ _ _ hb]; rfl
  have d2 : w1.cell? ⟨p, 2, none⟩ = some .nilFunc := by rw [cell_of_row _ _ _ _ _ _ hb]; rfl
  have d3 : w1.cell? ⟨p, 3, none⟩ = some .nilFunc := by rw [cell_of_row _ _ _ _ _ _ hb]; rfl
  have d4 : w1.cell? ⟨p, 4, none⟩ = some .nilFunc := by rw [cell_of_row _ _ _ _ _ _ hb]; rfl
  have d5 : w1.cell? ⟨p, 5, none⟩ = some .nilFunc := by rw [cell_of_row _ _ _ _ _ _ hb]; rfl
  have d6 : w1.cell? ⟨p, 6, none⟩ = some .nilFunc := by rw [cell_of_row _ _ _ _ _ _ hb]; rfl
  have f0 : w1.frozen? ⟨p, 0, none⟩ = false := frozen_of_row _ _ _ _ _ hb
  have f1 : w1.frozen? ⟨p, 1, none⟩ = false := frozen_of_row _ _ _ _ _ hb
  have f2 : w1.frozen? ⟨p, 2, none⟩ = false := frozen_of_row _ _ _ _ _ hb
  have f3 : w1.frozen? ⟨p, 3, none⟩ = false := frozen_of_row _ _ _ _ _ hb
  have f4 : w1.frozen? ⟨p, 4, none⟩ = false := frozen_of_row _ _ _ _ _ hb
  have f5 : w1.frozen? ⟨p, 5, none⟩ = false := frozen_of_row _ _ _ _ _ hb
  have f6 : w1.frozen? ⟨p, 6, none⟩ = false := frozen_of_row _ _ _ _ _ hb
  obtain ⟨word, k1, c1, k2, c2, k3, c3, k4, c4, k5, c5, k6, c6, rfl, hw⟩ := hf
  have HW := Lib.hid hw
  clear hw
  clear hb hm
  go_wp2_with fail
  refine bodyPost_ret (v := .agg #[.string word, .func (.func k1) #[] c1, .func (.func k2) #[] c2, .func (.func k3) #[] c3, .func (.func k4) #[] c4, .func (.func k5) #[] c5, .func (.func k6) #[] c6]) (by simp [results, Tryz.results75, go_sem, d0, d1, d2, d3, d4, d5, d6]) rfl ?_
  have hmm := fun i u w' (h : Mods [] w w') => h.setCell (p := ⟨p, i, none⟩) (Or.inr (by show w.heap.size ≤ p; omega)) u
  refine ⟨_, [], rfl, hmm _ _ _ (hmm _ _ _ (hmm _ _ _ (hmm _ _ _ (hmm _ _ _ (hmm _ _ _ (hmm _ _ _ HM.out)))))), ?_, ?_⟩
  · exact ⟨word, k1, c1, k2, c2, k3, c3, k4, c4, k5, c5, k6, c6, rfl, HW.out⟩
  · simp
theorem field75_10 (m : MsgP) (w : World) : Calls Tryz.prog 75 #[.int .u8 10] w fun e w' => ∃ fv cs, e = .returned fv ∧ Mods [] w w' ∧ IsField m 10 fv cs ∧ ∀ e ∈ cs, w'.cell? ⟨e.1, 0, none⟩ = some e.2 := by
  go_enter Tryz.func75, Tryz.ntmps75
  go_wp2_with fail
  refine (other_10 m _).mono ?_; rintro e w1 ⟨fv, rfl, hm, hf⟩
  have HM := Lib.hid (((Mods.refl [] w).alloc _).trans hm (by simp))
  have hb := hm.heap (heap_alloc_new w _) (by simp)
  generalize hp : w.heap.size = p at *
  have d0 : w1.cell? ⟨p, 0, none⟩ = some (.string ⟨#[]⟩) := by rw [cell_of_row _ _ _ _ _ _ hb]; rfl
  have d1 : w1.cell? ⟨p, 1, none⟩ = some .nilFunc := by rw [cell_of_row _ _ _ _ _ _ hb]; rfl
  have d2 : w1.cell? ⟨p, 2, none⟩ = some .nilFunc := by rw [cell_of_row _ _ _ _ _ _ hb]; rfl
  have d3 : w1.cell? ⟨p, 3, none⟩ = some .nilFunc := by rw [cell_of_row _ _ _ _ _ _ hb]; rfl
  have d4 : w1.cell? ⟨p, 4, none⟩ = some .nilFunc := by rw [cell_of_row _ _ _ _ _ _ hb]; rfl
  have d5 : w1.cell? ⟨p, 5, none⟩ = some .nilFunc := by rw [cell_of_row _ _ _ _ _ _ hb]; rfl
  have d6 : w1.cell? ⟨p, 6, none⟩ = some .nilFunc := by rw [cell_of_row _ _ _ _ _ _ hb]; rfl
  have f0 : w1.frozen? ⟨p, 0, none⟩ = false := frozen_of_row _ _ _ _ _ hb
  have f1 : w1.frozen? ⟨p, 1, none⟩ = false := frozen_of_row _ _ _ _ _ hb
  have f2 : w1.frozen? ⟨p, 2, none⟩ = false := frozen_of_row _ _ _ _ _ hb
  have f3 : w1.frozen? ⟨p, 3, none⟩ = false := frozen_of_row _ _ _ _ _ hb
  have f4 : w1.frozen? ⟨p, 4, none⟩ = false := frozen_of_row _ _ _ _ _ hb
  have f5 : w1.frozen? ⟨p, 5, none⟩ = false := frozen_of_row _ _ _ _ _ hb
  have f6 : w1.frozen? ⟨p, 6, none⟩ = false := frozen_of_row _ _ _ _ _ hb
  obtain ⟨word, k1, c1, k2, c2, k3, c3, k4, c4, k5, c5, k6, c6, rfl, hw⟩ := hf
  have HW := Lib.hid hw
  clear hw
  clear hb hm
  go_wp2_with fail
  refine bodyPost_ret (v := .agg #[.string word, .func (.func k1) #[] c1, .func (.func k2) #[] c2, .func (.func k3) #[] c3, .func (.func k4) #[] c4, .func (.func k5) #[] c5, .func (.func k6) #[] c6]) (by simp [results, Tryz.results75, go_sem, d0, d1, d2, d3, d4, d5, d6]) rfl ?_
  have hmm := fun i u w' (h : Mods [] w w') => h.setCell (p := ⟨p, i, none⟩) (Or.inr (by show w.heap.size ≤ p; omega)) u
  refine ⟨_, [], rfl, hmm _ _ _ (hmm _ _ _ (hmm _ _ _ (hmm _ _ _ (hmm _ _ _ (hmm _ _ _ (hmm _ _ _ HM.out)))))), ?_, ?_⟩
  · exact ⟨word, k1, c1, k2, c2, k3, c3, k4, c4, k5, c5, k6, c6, rfl, HW.out⟩
  · simp
theorem field75_11 (m : MsgP) (w : World) : Calls Tryz.prog 75 #[.int .u8 11] w fun e w' => ∃ fv cs, e = .returned fv ∧ Mods [] w w' ∧ IsField m 11 fv cs ∧ ∀ e ∈ cs, w'.cell? ⟨e.1, 0, none⟩ = some e.2 := by
  go_enter Tryz.func75, Tryz.ntmps75
  go_wp2_with fail
  refine (other_11 m _).mono ?_; rintro e w1 ⟨fv, rfl, hm, hf⟩
  have HM := Lib.hid (((Mods.refl [] w).alloc _).trans hm (by simp))
  have hb := hm.heap (heap_alloc_new w _) (by simp)
  generalize hp : w.heap.size = p at *
  have d0 : w1.cell? ⟨p, 0, none⟩ = some (.string ⟨#[]⟩) := by rw [cell_of_row _ _ _ _ _ _ hb]; rfl
  have d1 : w1.cell? ⟨p, 1, none⟩ = some .nilFunc := by rw [cell_of_row _ _ _ _ _ _ hb]; rfl
  have d2 : w1.cell? ⟨p, 2, none⟩ = some .nilFunc := by rw [cell_of_row _ _ _ _ _ _ hb]; rfl
  have d3 : w1.cell? ⟨p, 3, none⟩ = some .nilFunc := by rw [cell_of_row _ _ _ _ _ _ hb]; rfl
  have d4 : w1.cell? ⟨p, 4, none⟩ = some .nilFunc := by rw [cell_of_row _ _ _ _ _ _ hb]; rfl
  have d5 : w1.cell? ⟨p, 5, none⟩ = some .nilFunc := by rw [cell_of_row _ _ _ _ _ _ hb]; rfl
  have d6 : w1.cell? ⟨p, 6, none⟩ = some .nilFunc := by rw [cell_of_row _ _ _ _ _ _ hb]; rfl
  have f0 : w1.frozen? ⟨p, 0, none⟩ = false := frozen_of_row _ _ _ _ _ hb
  have f1 : w1.frozen? ⟨p, 1, none⟩ = false := frozen_of_row _ _ _ _ _ hb
  have f2 : w1.frozen? ⟨p, 2, none⟩ = false := frozen_of_row _ _ _ _ _ hb
  have f3 : w1.frozen? ⟨p, 3, none⟩ = false := frozen_of_row _ _ _ _ _ hb
  have f4 : w1.frozen? ⟨p, 4, none⟩ = false := frozen_of_row _ _ _ _ _ hb
  have f5 : w1.frozen? ⟨p, 5, none⟩ = false := frozen_of_row _ _ _ _ _ hb
  have f6 : w1.frozen? ⟨p, 6, none⟩ = false := frozen_of_row _ _ _ _ _ hb
  obtain ⟨word, k1, c1, k2, c2, k3, c3, k4, c4, k5, c5, k6, c6, rfl, hw⟩ := hf
  have HW := Lib.hid hw
  clear hw
  clear hb hm
  go_wp2_with fail
  refine bodyPost_ret (v := .agg #[.string word, .func (.func k1) #[] c1, .func (.func k2) #[] c2, .func (.func k3) #[] c3, .func (.func k4) #[] c4, .func (.func k5) #[] c5, .func (.func k6) #[] c6]) (by simp [results, Tryz.results75, go_sem, d0, d1, d2, d3, d4, d5, d6]) rfl ?_
  have hmm := fun i u w' (h : Mods [] w w') => h.setCell (p := ⟨p, i, none⟩) (Or.inr (by show w.heap.size ≤ p; omega)) u
  refine ⟨_, [], rfl, hmm _ _ _ (hmm _ _ _ (hmm _ _ _ (hmm _ _ _ (hmm _ _ _ (hmm _ _ _ (hmm _ _ _ HM.out)))))), ?_, ?_⟩
  · exact ⟨word, k1, c1, k2, c2, k3, c3, k4, c4, k5, c5, k6, c6, rfl, HW.out⟩
  · simp
theorem field75_12 (m : MsgP) (w : World) : Calls Tryz.prog 75 #[.int .u8 12] w fun e w' => ∃ fv cs, e = .returned fv ∧ Mods [] w w' ∧ IsField m 12 fv cs ∧ ∀ e ∈ cs, w'.cell? ⟨e.1, 0, none⟩ = some e.2 := by
  go_enter Tryz.func75, Tryz.ntmps75
  go_wp2_with fail
  refine (other_12 m _).mono ?_; rintro e w1 ⟨fv, rfl, hm, hf⟩
  have HM := Lib.hid (((Mods.refl [] w).alloc _).trans hm (by simp))
  have hb := hm.heap (heap_alloc_new w _) (by simp)
  generalize hp : w.heap.size = p at *
  have d0 : w1.cell? ⟨p, 0, none⟩ = some (.string ⟨#[]⟩) := by rw [cell_of_row _ _ _ _ _ _ hb]; rfl
  have d1 : w1.cell? ⟨p, 1, none⟩ = some .nilFunc := by rw [cell_of_row _ _ _ _ _ _ hb]; rfl
  have d2 : w1.cell? ⟨p, 2, none⟩ = some .nilFunc := by rw [cell_of_row _ _ _ _ _ _ hb]; rfl
  have d3 : w1.cell? ⟨p, 3, none⟩ = some .nilFunc := by rw [cell_of_row _ _ _ _ _ _ hb]; rfl
  have d4 : w1.cell? ⟨p, 4, none⟩ = some .nilFunc := by rw [cell_of_row _ _ _ _ _ _ hb]; rfl
  have d5 : w1.cell? ⟨p, 5, none⟩ = some .nilFunc := by rw [cell_of_row _ _ _ _ _ _ hb]; rfl
  have d6 : w1.cell? ⟨p, 6, none⟩ = some .nilFunc := by rw [cell_of_row _ _ _ _ _ _ hb]; rfl
  have f0 : w1.frozen? ⟨p, 0, none⟩ = false := frozen_of_row _ _ _ _ _ hb
  have f1 : w1.frozen? ⟨p, 1, none⟩ = false := frozen_of_row _ _ _ _ _ hb
  have f2 : w1.frozen? ⟨p, 2, none⟩ = false := frozen_of_row _ _ _ _ _ hb
  have f3 : w1.frozen? ⟨p, 3, none⟩ = false := frozen_of_row _ _ _ _ _ hb
  have f4 : w1.frozen? ⟨p, 4, none⟩ = false := frozen_of_row _ _ _ _ _ hb
  have f5 : w1.frozen? ⟨p, 5, none⟩ = false := frozen_of_row _ _ _ _ _ hb
  have f6 : w1.frozen? ⟨p, 6, none⟩ = false := frozen_of_row _ _ _ _ _ hb
  obtain ⟨word, k1, c1, k2, c2, k3, c3, k4, c4, k5, c5, k6, c6, rfl, hw⟩ := hf
  have HW := Lib.hid hw
  clear hw
  clear hb hm
  go_wp2_with fail
  refine bodyPost_ret (v := .agg #[.string word, .func (.func k1) #[] c1, .func (.func k2) #[] c2, .func (.func k3) #[] c3, .func (.func k4) #[] c4, .func (.func k5) #[] c5, .func (.func k6) #[] c6]) (by simp [results, Tryz.results75, go_sem, d0, d1, d2, d3, d4, d5, d6]) rfl ?_
  have hmm := fun i u w' (h : Mods [] w w') => h.setCell (p := ⟨p, i, none⟩) (Or.inr (by show w.heap.size ≤ p; omega)) u
  refine ⟨_, [], rfl, hmm _ _ _ (hmm _ _ _ (hmm _ _ _ (hmm _ _ _ (hmm _ _ _ (hmm _ _ _ (hmm _ _ _ HM.out)))))), ?_, ?_⟩
  · exact ⟨word, k1, c1, k2, c2, k3, c3, k4, c4, k5, c5, k6, c6, rfl, HW.out⟩
  · simp
theorem field75_16 (m : MsgP) (w : World) : Calls Tryz.prog 75 #[.int .u8 16] w fun e w' => ∃ fv cs, e = .returned fv ∧ Mods [] w w' ∧ IsField m 16 fv cs ∧ ∀ e ∈ cs, w'.cell? ⟨e.1, 0, none⟩ = some e.2 := by
  go_enter Tryz.func75, Tryz.ntmps75
  go_wp2_with fail
  refine (other_16 m _).mono ?_; rintro e w1 ⟨fv, rfl, hm, hf⟩
  have HM := Lib.hid (((Mods.refl [] w).alloc _).trans hm (by simp))
  have hb := hm.heap (heap_alloc_new w _) (by simp)
  generalize hp : w.heap.size = p at *
  have d0 : w1.cell? ⟨p, 0, none⟩ = some (.string ⟨#[]⟩) := by rw [cell_of_row _ _ _ _ _ _ hb]; rfl
  have d1 : w1.cell? ⟨p, 1, none⟩ = some .nilFunc := by rw [cell_of_row _ _ _ _ _ _ hb]; rfl
  have d2 : w1.cell? ⟨p, 2, none⟩ = some .nilFunc := by rw [cell_of_row _ _ _ _ _ _ hb]; rfl
  have d3 : w1.cell? ⟨p, 3, none⟩ = some .nilFunc := by rw [cell_of_row _ _ _ _ _ _ hb]; rfl
  have d4 : w1.cell? ⟨p, 4, none⟩ = some .nilFunc := by rw [cell_of_row _ _ _ _ _ _ hb]; rfl
  have d5 : w1.cell? ⟨p, 5, none⟩ = some .nilFunc := by rw [cell_of_row _ _ _ _ _ _ hb]; rfl
  have d6 : w1.cell? ⟨p, 6, none⟩ = some .nilFunc := by rw [cell_of_row _ _ _ _ _ _ hb]; rfl
  have f0 : w1.frozen? ⟨p, 0, none⟩ = false := frozen_of_row _ _ _ _ _ hb
  have f1 : w1.frozen? ⟨p, 1, none⟩ = false := frozen_of_row _ _ _ _ _ hb
  have f2 : w1.frozen? ⟨p, 2, none⟩ = false := frozen_of_row _ _ _ _ _ hb
  have f3 : w1.frozen? ⟨p, 3, none⟩ = false := frozen_of_row _ _ _ _ _ hb
  have f4 : w1.frozen? ⟨p, 4, none⟩ = false := frozen_of_row _ _ _ _ _ hb
  have f5 : w1.frozen? ⟨p, 5, none⟩ = false := frozen_of_row _ _ _ _ _ hb
  have f6 : w1.frozen? ⟨p, 6, none⟩ = false := frozen_of_row _ _ _ _ _ hb
  obtain ⟨word, k1, c1, k2, c2, k3, c3, k4, c4, k5, c5, k6, c6, rfl, hw⟩ := hf
  have HW := Lib.hid hw
  clear hw
  clear hb hm
  go_wp2_with fail
  refine bodyPost_ret (v := .agg #[.string word, .func (.func k1) #[] c1, .func (.func k2) #[] c2, .func (.func k3) #[] c3, .func (.func k4) #[] c4, .func (.func k5) #[] c5, .func (.func k6) #[] c6]) (by simp [results, Tryz.results75, go_sem, d0, d1, d2, d3, d4, d5, d6]) rfl ?_
  have hmm := fun i u w' (h : Mods [] w w') => h.setCell (p := ⟨p, i, none⟩) (Or.inr (by show w.heap.size ≤ p; omega)) u
  refine ⟨_, [], rfl, hmm _ _ _ (hmm _ _ _ (hmm _ _ _ (hmm _ _ _ (hmm _ _ _ (hmm _ _ _ (hmm _ _ _ HM.out)))))), ?_, ?_⟩
  · exact ⟨word, k1, c1, k2, c2, k3, c3, k4, c4, k5, c5, k6, c6, rfl, HW.out⟩
  · simp
theorem field75_18 (m : MsgP) (w : World) : Calls Tryz.prog 75 #[.int .u8 18] w fun e w' => ∃ fv cs, e = .returned fv ∧ Mods [] w w' ∧ IsField m 18 fv cs ∧ ∀ e ∈ cs, w'.cell? ⟨e.1, 0, none⟩ = some e.2 := by
  go_enter Tryz.func75, Tryz.ntmps75
  go_wp2_with fail
  refine (other_18 m _).mono ?_; rintro e w1 ⟨fv, rfl, hm, hf⟩
  have HM := Lib.hid (((Mods.refl [] w).alloc _).trans hm (by simp))
  have hb := hm.heap (heap_alloc_new w _) (by simp)
  generalize hp : w.heap.size = p at *
  have d0 : w1.cell? ⟨p, 0, none⟩ = some (.string ⟨#[]⟩) := by rw [cell_of_row _ _ _ _ _ _ hb]; rfl
  have d1 : w1.cell? ⟨p, 1, none⟩ = some .nilFunc := by rw [cell_of_row _ _ _ _ _ _ hb]; rfl
  have d2 : w1.cell? ⟨p, 2, none⟩ = some .nilFunc := by rw [cell_of_row _ _ _ _ _ _ hb]; rfl
  have d3 : w1.cell? ⟨p, 3, none⟩ = some .nilFunc := by rw [cell_of_row _ _ _ _ _ _ hb]; rfl
  have d4 : w1.cell? ⟨p, 4, none⟩ = some .nilFunc := by rw [cell_of_row _ _ _ _ _ _ hb]; rfl
  have d5 : w1.cell? ⟨p, 5, none⟩ = some .nilFunc := by rw [cell_of_row _ _ _ _ _ _ hb]; rfl
  have d6 : w1.cell? ⟨p, 6, none⟩ = some .nilFunc := by rw [cell_of_row _ _ _ _ _ _ hb]; rfl
  have f0 : w1.frozen? ⟨p, 0, none⟩ = false := frozen_of_row _ _ _ _ _ hb
  have f1 : w1.frozen? ⟨p, 1, none⟩ = false := frozen_of_row _ _ _ _ _ hb
  have f2 : w1.frozen? ⟨p, 2, none⟩ = false := frozen_of_row _ _ _ _ _ hb
  have f3 : w1.frozen? ⟨p, 3, none⟩ = false := frozen_of_row _ _ _ _ _ hb
  have f4 : w1.frozen? ⟨p, 4, none⟩ = false := frozen_of_row _ _ _ _ _ hb
  have f5 : w1.frozen? ⟨p, 5, none⟩ = false := frozen_of_row _ _ _ _ _ hb
  have f6 : w1.frozen? ⟨p, 6, none⟩ = false := frozen_of_row _ _ _ _ _ hb
  obtain ⟨word, k1, c1, k2, c2, k3, c3, k4, c4, k5, c5, k6, c6, rfl, hw⟩ := hf
  have HW := Lib.hid hw
  clear hw
  clear hb hm
  go_wp2_with fail
  refine bodyPost_ret (v := .agg #[.string word, .func (.func k1) #[] c1, .func (.func k2) #[] c2, .func (.func k3) #[] c3, .func (.func k4) #[] c4, .func (.func k5) #[] c5, .func (.func k6) #[] c6]) (by simp [results, Tryz.results75, go_sem, d0, d1, d2, d3, d4, d5, d6]) rfl ?_
  have hmm := fun i u w' (h : Mods [] w w') => h.setCell (p := ⟨p, i, none⟩) (Or.inr (by show w.heap.size ≤ p; omega)) u
  refine ⟨_, [], rfl, hmm _ _ _ (hmm _ _ _ (hmm _ _ _ (hmm _ _ _ (hmm _ _ _ (hmm _ _ _ (hmm _ _ _ HM.out)))))), ?_, ?_⟩
  · exact ⟨word, k1, c1, k2, c2, k3, c3, k4, c4, k5, c5, k6, c6, rfl, HW.out⟩
  · simp
theorem field75_19 (m : MsgP) (w : World) : Calls Tryz.prog 75 #[.int .u8 19] w fun e w' => ∃ fv cs, e = .returned fv ∧ Mods [] w w' ∧ IsField m 19 fv cs ∧ ∀ e ∈ cs, w'.cell? ⟨e.1, 0, none⟩ = some e.2 := by
  go_enter Tryz.func75, Tryz.ntmps75
  go_wp2_with fail
  refine (other_19 m _).mono ?_; rintro e w1 ⟨fv, rfl, hm, hf⟩
  have HM := Lib.hid (((Mods.refl [] w).alloc _).trans hm (by simp))
  have hb := hm.heap (heap_alloc_new w _) (by simp)
  generalize hp : w.heap.size = p at *
  have d0 : w1.cell? ⟨p, 0, none⟩ = some (.string ⟨#[]⟩) := by rw [cell_of_row _ _ _ _ _ _ hb]; rfl
  have d1 : w1.cell? ⟨p, 1, none⟩ = some .nilFunc := by rw [cell_of_row _ _ _ _ _ _ hb]; rfl
  have d2 : w1.cell? ⟨p, 2, none⟩ = some .nilFunc := by rw [cell_of_row _ _ _ _ _ _ hb]; rfl
  have d3 : w1.cell? ⟨p, 3, none⟩ = some .nilFunc := by rw [cell_of_row _ _ _ _ _ _ hb]; rfl
  have d4 : w1.cell? ⟨p, 4, none⟩ = some .nilFunc := by rw [cell_of_row _ _ _ _ _ _ hb]; rfl
  have d5 : w1.cell? ⟨p, 5, none⟩ = some .nilFunc := by rw [cell_of_row _ _ _ _ _ _ hb]; rfl
  have d6 : w1.cell? ⟨p, 6, none⟩ = some .nilFunc := by rw [cell_of_row _ _ _ _ _ _ hb]; rfl
  have f0 : w1.frozen? ⟨p, 0, none⟩ = false := frozen_of_row _ _ _ _ _ hb
  have f1 : w1.frozen? ⟨p, 1, none⟩ = false := frozen_of_row _ _ _ _ _ hb
  have f2 : w1.frozen? ⟨p, 2, none⟩ = false := frozen_of_row _ _ _ _ _ hb
  have f3 : w1.frozen? ⟨p, 3, none⟩ = false := frozen_of_row _ _ _ _ _ hb
  have f4 : w1.frozen? ⟨p, 4, none⟩ = false := frozen_of_row _ _ _ _ _ hb
  have f5 : w1.frozen? ⟨p, 5, none⟩ = false := frozen_of_row _ _ _ _ _ hb
  have f6 : w1.frozen? ⟨p, 6, none⟩ = false := frozen_of_row _ _ _ _ _ hb
  obtain ⟨word, k1, c1, k2, c2, k3, c3, k4, c4, k5, c5, k6, c6, rfl, hw⟩ := hf
  have HW := Lib.hid hw
  clear hw
  clear hb hm
  go_wp2_with fail
  refine bodyPost_ret (v := .agg #[.string word, .func (.func k1) #[] c1, .func (.func k2) #[] c2, .func (.func k3) #[] c3, .func (.func k4) #[] c4, .func (.func k5) #[] c5, .func (.func k6) #[] c6]) (by simp [results, Tryz.results75, go_sem, d0, d1, d2, d3, d4, d5, d6]) rfl ?_
  have hmm := fun i u w' (h : Mods [] w w') => h.setCell (p := ⟨p, i, none⟩) (Or.inr (by show w.heap.size ≤ p; omega)) u
  refine ⟨_, [], rfl, hmm _ _ _ (hmm _ _ _ (hmm _ _ _ (hmm _ _ _ (hmm _ _ _ (hmm _ _ _ (hmm _ _ _ HM.out)))))), ?_, ?_⟩
  · exact ⟨word, k1, c1, k2, c2, k3, c3, k4, c4, k5, c5, k6, c6, rfl, HW.out⟩
  · simp
theorem fieldOf_any (m : MsgP) (n : Nat) (hn : n < 20) (w : World) : Calls Tryz.prog 75 #[.int .u8 (n : Int)] w fun e w' => ∃ fv cs, e = .returned fv ∧ Mods [] w w' ∧ IsField m n fv cs ∧ ∀ e ∈ cs, w'.cell? ⟨e.1, 0, none⟩ = some e.2 := by
  match n, hn with
  | 0, _ => exact field75_0 m w
  | 1, _ => exact field75_1 m w
  | 2, _ => exact field75_2 m w
  | 3, _ => exact field75_3 m w
  | 4, _ => exact field75_4 m w
  | 5, _ => exact field75_5 m w
  | 6, _ => exact field75_6 m w
  | 7, _ => exact field75_7 m w
  | 8, _ => exact field75_8 m w
  | 9, _ => exact field75_9 m w
  | 10, _ => exact field75_10 m w
  | 11, _ => exact field75_11 m w
  | 12, _ => exact field75_12 m w
  | 13, _ => exact field75_13 m w
  | 14, _ => exact field75_14 m w
  | 15, _ => exact field75_15 m w
  | 16, _ => exact field75_16 m w
  | 17, _ => exact field75_17 m w
  | 18, _ => exact field75_18 m w
  | 19, _ => exact field75_19 m w
  | n + 20, h => exact absurd h (by omega)
end Go.Proofs.YtlgoeipgmjcboaaGreatDoor
