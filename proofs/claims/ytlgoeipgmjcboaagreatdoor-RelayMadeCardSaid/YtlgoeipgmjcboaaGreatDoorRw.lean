/- A message's fields, as a writer writes them; how many bytes its frame has. No program. | The fields' functions (fields of four bytes, texts): where a field lies; is it good; it is written. | Raw, of a writer. -/
import Derived.Test.YtlgoeipgmjcboaaGreatDoorMs
import Derived.Test.YtlgoeipgmjcboaaGreatDoorMb
import Derived.Test.YtlgoeipgmjcboaaGreatDoorKn
namespace Go.Proofs.YtlgoeipgmjcboaaGreatDoor

def MsgP.numOf (m : MsgP) (n : Nat) : Nat := if n = 0 then m.msize else if n = 2 then m.afid else if n = 7 then m.fid else if n = 8 then m.newfid else if n = 13 then m.iounit else if n = 15 then m.perm else m.count
def MsgP.putF (m : MsgP) (n : Nat) (S : WSt) : WSt :=
  match m.textOf n with
  | some t => S.text t.data.toList
  | none =>
    if n = 9 then m.names.foldl (fun S t => S.text t.data.toList) (S.put (le m.names.length 2))
    else if n = 10 then m.qids.foldl WSt.qid (S.put (le m.qids.length 2))
    else if n = 11 then S.qid m.qid
    else if n = 18 then (S.put (le m.data.length 4)).put m.data
    else if n = 19 then (S.opn.1.stat m.stat).shut S.opn.2
    else if n = 6 then S.put (le m.oldtag 2) else if n = 12 then S.put (le m.mode 1) else if n = 16 then S.put (le m.offset 8) else S.put (le (m.numOf n) 4)
/-- From S on k bytes are written, or there is no room for them. -/
structure Goes (S S' : WSt) (k : Nat) : Prop where
  limit : S'.limit = S.limit
  bad : S.err ≠ 0 → S'.err ≠ 0
  full : S.limit < S.bytes.length + k → S'.err ≠ 0
  fits : S.err = 0 → S.bytes.length + k ≤ S.limit → S'.err = 0 ∧ S'.opens = S.opens ∧ S'.bytes.length = S.bytes.length + k
theorem Goes.trans {S S1 S2 : WSt} {j k : Nat} (h : Goes S S1 j) (g : Goes S1 S2 k) : Goes S S2 (j + k) where
  limit := g.limit.trans h.limit
  bad := fun e => g.bad (h.bad e)
  full := fun hf => by
    by_cases e : S.err = 0
    · by_cases f : S.bytes.length + j ≤ S.limit
      · have := h.fits e f
        exact g.full (by rw [h.limit, this.2.2]; omega)
      · exact g.bad (h.full (by omega))
    · exact g.bad (h.bad e)
  fits := fun e hf => by
    have h1 := h.fits e (by omega)
    have h2 := g.fits h1.1 (by rw [h.limit, h1.2.2]; omega)
    exact ⟨h2.1, h2.2.1.trans h1.2.1, by omega⟩
theorem Goes.refl (S : WSt) (hw : S.bytes.length ≤ S.limit) : Goes S S 0 := ⟨rfl, fun h => h, fun h => by omega, fun h _ => ⟨h, rfl, rfl⟩⟩
theorem goes_put {S : WSt} (bs : List UInt8) : Goes S (S.put bs) bs.length where
  limit := by unfold WSt.put; split <;> (try split) <;> rfl
  bad := fun e => by rw [WSt.put_err _ e]; exact e
  full := fun hf => by
    by_cases e : S.err = 0
    · rw [WSt.put_full _ e hf]
      simp
    · rw [WSt.put_err _ e]
      exact e
  fits := fun e hf => by
    rw [WSt.put_fits _ e (by omega)]
    exact ⟨e, rfl, by simp⟩
theorem goes_text {S : WSt} (hl : S.limit ≤ 65536) (t : ByteArray) (hg : isGood t = true) : Goes S (S.text t.data.toList) (2 + t.size) := by
  have hsz : t.data.toList.length = t.size := Array.length_toList
  have hlen : (le t.data.toList.length 2 ++ t.data.toList).length = 2 + t.size := by rw [List.length_append, le_length, hsz]
  have hp := goes_put (S := S) (le t.data.toList.length 2 ++ t.data.toList)
  rw [hlen] at hp
  by_cases e : S.err = 0
  · by_cases hb : 65535 < t.data.toList.length
    · have ht : S.text t.data.toList = { S with err := 13 } := by
        unfold WSt.text
        rw [if_neg (by omega), if_pos hb]
      rw [ht]
      refine ⟨rfl, fun h => absurd e h, fun _ => ?_, fun _ hf => by omega⟩
      show (13 : Nat) ≠ 0
      omega
    · have ht : S.text t.data.toList = S.put (le t.data.toList.length 2 ++ t.data.toList) := by
        unfold WSt.text
        rw [if_neg (by omega), if_neg hb, if_neg (by unfold isGood at hg; simp [hg])]
      rw [ht]
      exact hp
  · have ht : S.text t.data.toList = S := by
      unfold WSt.text
      rw [if_pos e]
    rw [ht]
    exact ⟨rfl, fun h => h, fun _ => e, fun h => absurd h e⟩
theorem goes_qid {S : WSt} (q : QidP) : Goes S (S.qid q) 13 := by
  have h := ((goes_put (S := S) (le q.kind 1)).trans (goes_put (le q.vers 4))).trans (goes_put (le q.path 8))
  simp only [le_length] at h
  exact h
theorem goes_fold {α : Type} (f : WSt → α → WSt) (c : α → Nat) (L : List α) (hf : ∀ S : WSt, ∀ x ∈ L, S.limit ≤ 65536 → Goes S (f S x) (c x)) : ∀ {S : WSt} {k : Nat} {S0 : WSt}, S0.limit ≤ 65536 → Goes S0 S k → Goes S0 (L.foldl f S) (k + (L.map c).sum) := by
  induction L with
  | nil => intro S k S0 _ h; simpa using h
  | cons x L ih =>
    intro S k S0 hl h
    have h1 := h.trans (hf S x (by simp) (by rw [h.limit]; exact hl))
    have h2 := ih (fun S y hy => hf S y (List.mem_cons_of_mem _ hy)) hl h1
    rw [List.foldl_cons, List.map_cons, List.sum_cons, ← Nat.add_assoc]
    exact h2
theorem shut_limit (S : WSt) (p : Int) : (S.shut p).limit = S.limit := by
  unfold WSt.shut
  split
  · rfl
  · split
    · rfl
    · split
      · rfl
      · split <;> rfl
theorem shut_bad {S : WSt} (p : Int) (e : S.err ≠ 0) : S.shut p = S := by
  unfold WSt.shut
  rw [if_pos e]
theorem opn_limit (S : WSt) : S.opn.1.limit = S.limit := by
  unfold WSt.opn
  split
  · exact (goes_put (S := S) [0, 0]).limit
  · exact (goes_put (S := S) [0, 0]).limit
theorem opn_bad {S : WSt} (e : (S.put [0, 0]).err ≠ 0) : S.opn.1.err ≠ 0 := by
  unfold WSt.opn
  rw [if_pos e]
  exact e
/-- What is written between Open and Shut. -/
theorem goes_opened {S S2 : WSt} {k : Nat} (hl : S.limit ≤ 65536) (h : Goes S.opn.1 S2 k) : Goes S (S2.shut S.opn.2) (2 + k) where
  limit := by rw [shut_limit, h.limit, opn_limit]
  bad := fun e => by
    have h2 := h.bad (opn_bad (by rw [WSt.put_err _ e]; exact e))
    rw [shut_bad _ h2]
    exact h2
  full := fun hf => by
    have h2 : S2.err ≠ 0 := by
      by_cases e : S.err = 0
      · by_cases f : S.bytes.length + 2 ≤ S.limit
        · refine h.full ?_
          rw [WSt.opn_fits e f]
          simp only [List.length_append, List.length_cons, List.length_nil]
          omega
        · exact h.bad (opn_bad (by rw [WSt.put_full _ e (by simpa using f)]; simp))
      · exact h.bad (opn_bad (by rw [WSt.put_err _ e]; exact e))
    rw [shut_bad _ h2]
    exact h2
  fits := fun e hf => by
    have eo := WSt.opn_fits e (show S.bytes.length + 2 ≤ S.limit by omega)
    have h2 := h.fits (by rw [eo]; exact e) (by rw [eo]; simp only [List.length_append, List.length_cons, List.length_nil]; omega)
    rw [eo] at h2 ⊢
    obtain ⟨g1, g2, g3⟩ := h2
    simp only [List.length_append, List.length_cons, List.length_nil] at g2 g3
    unfold WSt.shut
    rw [if_neg (by omega), g2]
    simp only [List.getLast?_append, List.getLast?_singleton, Option.some_or, ne_eq, not_true, if_false]
    rw [if_neg (by omega)]
    refine ⟨g1, by simp, ?_⟩
    simp only [List.length_set]
    omega
theorem goes_stat {S : WSt} (hl : S.limit ≤ 65536) (s : StatP) (hg : s.texts.all isGood = true) : Goes S (S.stat s) s.size := by
  rw [List.all_eq_true] at hg
  have l1 : S.opn.1.limit ≤ 65536 := by rw [opn_limit]; exact hl
  have h1 := ((((((goes_put (S := S.opn.1) (le s.typ 2)).trans (goes_put (le s.dev 4))).trans (goes_qid s.qid)).trans (goes_put (le s.mode 4))).trans (goes_put (le s.atime 4))).trans (goes_put (le s.mtime 4))).trans (goes_put (le s.length 8))
  have h2 := h1.trans (goes_text (by rw [h1.limit]; exact l1) s.name (hg _ (by simp [StatP.texts])))
  have h3 := h2.trans (goes_text (by rw [h2.limit]; exact l1) s.uid (hg _ (by simp [StatP.texts])))
  have h4 := h3.trans (goes_text (by rw [h3.limit]; exact l1) s.gid (hg _ (by simp [StatP.texts])))
  have h5 := h4.trans (goes_text (by rw [h4.limit]; exact l1) s.muid (hg _ (by simp [StatP.texts])))
  have h6 := goes_opened hl h5
  have e : 2 + ((le s.typ 2).length + (le s.dev 4).length + 13 + (le s.mode 4).length + (le s.atime 4).length + (le s.mtime 4).length + (le s.length 8).length + (2 + s.name.size) + (2 + s.uid.size) + (2 + s.gid.size) + (2 + s.muid.size)) = s.size := by
    simp only [le_length, StatP.size]
    omega
  rw [e] at h6
  exact h6
theorem sum_const {α : Type} (L : List α) (c : Nat) : (L.map fun _ => c).sum = c * L.length := by
  induction L with
  | nil => rfl
  | cons x L ih => rw [List.map_cons, List.sum_cons, ih, List.length_cons, Nat.mul_add, Nat.mul_one, Nat.add_comm]
theorem goes_field {S : WSt} (hl : S.limit ≤ 65536) (m : MsgP) (n : Nat) (hg : m.goodF n = true) : Goes S (m.putF n S) (m.sizeF n) := by
  unfold MsgP.goodF at hg
  unfold MsgP.putF MsgP.sizeF
  cases e : m.textOf n with
  | some t =>
    rw [e] at hg
    exact goes_text hl t hg
  | none =>
    rw [e] at hg
    simp only at hg ⊢
    by_cases e9 : n = 9
    · rw [if_pos e9] at hg
      simp only [Bool.and_eq_true, List.all_eq_true] at hg
      rw [if_pos e9, if_pos e9]
      have h := goes_fold (fun S (t : ByteArray) => S.text t.data.toList) (fun t : ByteArray => 2 + t.size) m.names (fun S t ht hl => goes_text hl t (hg.2 t ht)) hl (goes_put (S := S) (le m.names.length 2))
      rw [le_length] at h
      exact h
    · rw [if_neg e9, if_neg e9]
      by_cases e10 : n = 10
      · rw [if_pos e10, if_pos e10]
        have h := goes_fold WSt.qid (fun _ => 13) m.qids (fun S q _ _ => goes_qid q) hl (goes_put (S := S) (le m.qids.length 2))
        rw [le_length] at h
        rw [sum_const] at h
        exact h
      · rw [if_neg e10, if_neg e10]
        by_cases e11 : n = 11
        · rw [if_pos e11, if_pos e11]
          exact goes_qid _
        · rw [if_neg e11, if_neg e11]
          by_cases e18 : n = 18
          · rw [if_pos e18, if_pos e18]
            have h := (goes_put (S := S) (le m.data.length 4)).trans (goes_put m.data)
            rw [le_length] at h
            exact h
          · rw [if_neg e18, if_neg e18]
            by_cases e19 : n = 19
            · rw [if_pos e19, if_pos e19]
              rw [if_neg e9, if_neg e10, if_pos e19] at hg
              exact goes_opened hl (goes_stat (by rw [opn_limit]; exact hl) m.stat hg)
            · rw [if_neg e19, if_neg e19]
              have hp : ∀ v k, Goes S (S.put (le v k)) k := fun v k => by simpa [le_length] using goes_put (S := S) (le v k)
              split
              · exact hp _ _
              · split
                · exact hp _ _
                · split <;> exact hp _ _
/-- The bytes of a frame, with their count still nought. -/
def MsgP.head (m : MsgP) : WSt := (((⟨65536, [], [], 0⟩ : WSt).put (le 0 4)).put (le m.kind 1)).put (le m.tag 2)
def MsgP.frame (m : MsgP) (l : List Nat) : WSt := l.foldl (fun S n => m.putF n S) m.head
theorem goes_frame (m : MsgP) (l : List Nat) (hg : l.all m.goodF = true) : Goes ⟨65536, [], [], 0⟩ (m.frame l) (7 + (l.map m.sizeF).sum) := by
  have h := ((goes_put (S := ⟨65536, [], [], 0⟩) (le 0 4)).trans (goes_put (le m.kind 1))).trans (goes_put (le m.tag 2))
  rw [List.all_eq_true] at hg
  have h2 := goes_fold (fun S n => m.putF n S) m.sizeF l (fun S n hn hl => goes_field hl m n (hg n hn)) (Nat.le_refl _) h
  simp only [le_length] at h2
  exact h2
/-- Of a frame that is good: either it has too many bytes, or it is done. -/
theorem frame_done (m : MsgP) (l : List Nat) (hg : l.all m.goodF = true) :
    (65536 < 7 + (l.map m.sizeF).sum ∧ (m.frame l).err ≠ 0) ∨ (7 + (l.map m.sizeF).sum ≤ 65536 ∧ (m.frame l).err = 0 ∧ (m.frame l).opens = [] ∧ (m.frame l).bytes.length = 7 + (l.map m.sizeF).sum) := by
  have h := goes_frame m l hg
  by_cases hf : 7 + (l.map m.sizeF).sum ≤ 65536
  · have := h.fits rfl (by simpa using hf)
    exact Or.inr ⟨hf, this.1, this.2.1, by simpa using this.2.2⟩
  · exact Or.inl ⟨by omega, h.full (by simp; omega)⟩
end Go.Proofs.YtlgoeipgmjcboaaGreatDoor
namespace Go.Proofs.YtlgoeipgmjcboaaGreatDoor
open Go.RowKit Me

theorem always_any (x : Value) (w : World) : Calls Tryz.prog 126 #[x] w fun e w' => e = .returned (.bool true) ∧ w' = w := by
  go_enter Tryz.func126, Tryz.ntmps126
  go_wp2_with fail
  go_ret
  exact ⟨rfl, rfl⟩
/-- Where a field lies. -/
structure AtFn (k o : Nat) : Prop where
  enters : ∀ (args : Array Value) (w : World), (callFunc k args).run Tryz.prog w = .ok (.enter k args) w
  calls : ∀ (b : Nat) (w : World), Calls Tryz.prog k #[.pointer (some ⟨b, 0, none⟩)] w fun e w' => e = .returned (.pointer (some ⟨b, o, none⟩)) ∧ w' = w
theorem at101 : AtFn 101 2 := by
  refine ⟨enters_of Tryz.func101 (by kernel_rfl) rfl, fun b w => ?_⟩
  go_enter Tryz.func101, Tryz.ntmps101
  go_wp2_with fail
  go_ret
  exact ⟨rfl, rfl⟩
theorem at102 : AtFn 102 4 := by
  refine ⟨enters_of Tryz.func102 (by kernel_rfl) rfl, fun b w => ?_⟩
  go_enter Tryz.func102, Tryz.ntmps102
  go_wp2_with fail
  go_ret
  exact ⟨rfl, rfl⟩
theorem at103 : AtFn 103 9 := by
  refine ⟨enters_of Tryz.func103 (by kernel_rfl) rfl, fun b w => ?_⟩
  go_enter Tryz.func103, Tryz.ntmps103
  go_wp2_with fail
  go_ret
  exact ⟨rfl, rfl⟩
theorem at104 : AtFn 104 10 := by
  refine ⟨enters_of Tryz.func104 (by kernel_rfl) rfl, fun b w => ?_⟩
  go_enter Tryz.func104, Tryz.ntmps104
  go_wp2_with fail
  go_ret
  exact ⟨rfl, rfl⟩
theorem at105 : AtFn 105 17 := by
  refine ⟨enters_of Tryz.func105 (by kernel_rfl) rfl, fun b w => ?_⟩
  go_enter Tryz.func105, Tryz.ntmps105
  go_wp2_with fail
  go_ret
  exact ⟨rfl, rfl⟩
theorem at106 : AtFn 106 19 := by
  refine ⟨enters_of Tryz.func106 (by kernel_rfl) rfl, fun b w => ?_⟩
  go_enter Tryz.func106, Tryz.ntmps106
  go_wp2_with fail
  go_ret
  exact ⟨rfl, rfl⟩
theorem at107 : AtFn 107 21 := by
  refine ⟨enters_of Tryz.func107 (by kernel_rfl) rfl, fun b w => ?_⟩
  go_enter Tryz.func107, Tryz.ntmps107
  go_wp2_with fail
  go_ret
  exact ⟨rfl, rfl⟩
theorem at109 : AtFn 109 3 := by
  refine ⟨enters_of Tryz.func109 (by kernel_rfl) rfl, fun b w => ?_⟩
  go_enter Tryz.func109, Tryz.ntmps109
  go_wp2_with fail
  go_ret
  exact ⟨rfl, rfl⟩
theorem at110 : AtFn 110 5 := by
  refine ⟨enters_of Tryz.func110 (by kernel_rfl) rfl, fun b w => ?_⟩
  go_enter Tryz.func110, Tryz.ntmps110
  go_wp2_with fail
  go_ret
  exact ⟨rfl, rfl⟩
theorem at111 : AtFn 111 6 := by
  refine ⟨enters_of Tryz.func111 (by kernel_rfl) rfl, fun b w => ?_⟩
  go_enter Tryz.func111, Tryz.ntmps111
  go_wp2_with fail
  go_ret
  exact ⟨rfl, rfl⟩
theorem at112 : AtFn 112 7 := by
  refine ⟨enters_of Tryz.func112 (by kernel_rfl) rfl, fun b w => ?_⟩
  go_enter Tryz.func112, Tryz.ntmps112
  go_wp2_with fail
  go_ret
  exact ⟨rfl, rfl⟩
theorem at113 : AtFn 113 18 := by
  refine ⟨enters_of Tryz.func113 (by kernel_rfl) rfl, fun b w => ?_⟩
  go_enter Tryz.func113, Tryz.ntmps113
  go_wp2_with fail
  go_ret
  exact ⟨rfl, rfl⟩
theorem textgood {k o : Nat} (hk : AtFn k o) (c b : Nat) (w : World) (t : ByteArray) (hc : w.cell? ⟨c, 0, none⟩ = some (.func (.func k) #[] #[])) (ht : w.cell? ⟨b, o, none⟩ = some (.string t)) (hs : t.size ≤ maxLen) (hT : Lib.Utf8Tabs 4 5 w) :
    Calls Tryz.prog 135 #[.pointer (some ⟨b, 0, none⟩), .pointer (some ⟨c, 0, none⟩)] w fun e w' => e = .returned (.bool (isGood t)) ∧ Mods [] w w' := by
  have HK := Lib.hid (hk.calls b w)
  have e9 := hk.enters
  have HT := Lib.hid hT
  clear hk hT
  go_enter Tryz.func135, Tryz.ntmps135
  go_wp2_with fail
  refine HK.out.mono ?_; rintro e w1 ⟨rfl, rfl⟩
  go_wp2_with fail
  refine (good_any t w1 hs HT.out).mono ?_; rintro e w2 ⟨rfl, hm⟩
  have HM := Lib.hid hm
  clear hm
  go_wp2_with fail
  go_ret
  exact ⟨rfl, Mods.below HM.out _⟩
theorem numput {k o : Nat} (hk : AtFn k o) (c b a v : Nat) (S : WSt) (vb vo : Value) (w : World) (hc : w.cell? ⟨c, 0, none⟩ = some (.func (.func k) #[] #[])) (ht : w.cell? ⟨b, o, none⟩ = some (.int .u32 (v : Int))) (hv : v < 4294967296) (h : IsW 195 w a S vb vo) :
    Calls Tryz.prog 127 #[.pointer (some ⟨a, 0, none⟩), .pointer (some ⟨b, 0, none⟩), .pointer (some ⟨c, 0, none⟩)] w fun e w' => e = .returned (.tuple #[]) ∧ WPost 195 w a vb vo (S.put (le v 4)) w' := by
  have HK := Lib.hid (hk.calls b w)
  have e9 := hk.enters
  have H := Lib.hid h
  clear hk h
  go_enter Tryz.func127, Tryz.ntmps127
  go_wp2_with fail
  refine HK.out.mono ?_; rintro e w1 ⟨rfl, rfl⟩
  go_wp2_with fail
  refine (u32_any H.out v hv).mono ?_; rintro e w2 ⟨rfl, hp⟩
  have HP := Lib.hid hp
  clear hp
  go_wp2_with fail
  go_end0
  exact ⟨rfl, HP.out⟩
theorem textput {k o : Nat} (hk : AtFn k o) (c b a : Nat) (t : ByteArray) (S : WSt) (vb vo : Value) (w : World) (hc : w.cell? ⟨c, 0, none⟩ = some (.func (.func k) #[] #[])) (ht : w.cell? ⟨b, o, none⟩ = some (.string t)) (hs : t.size ≤ maxLen) (hT : Lib.Utf8Tabs 4 5 w) (h : IsW 195 w a S vb vo) :
    Calls Tryz.prog 137 #[.pointer (some ⟨a, 0, none⟩), .pointer (some ⟨b, 0, none⟩), .pointer (some ⟨c, 0, none⟩)] w fun e w' => e = .returned (.tuple #[]) ∧ WPost 195 w a vb vo (S.text t.data.toList) w' := by
  have HK := Lib.hid (hk.calls b w)
  have e9 := hk.enters
  have H := Lib.hid h
  have HT := Lib.hid hT
  clear hk h hT
  go_enter Tryz.func137, Tryz.ntmps137
  go_wp2_with fail
  refine HK.out.mono ?_; rintro e w1 ⟨rfl, rfl⟩
  go_wp2_with fail
  refine (text_any H.out t hs HT.out).mono ?_; rintro e w2 ⟨rfl, hp⟩
  have HP := Lib.hid hp
  clear hp
  go_wp2_with fail
  go_end0
  exact ⟨rfl, HP.out⟩
end Go.Proofs.YtlgoeipgmjcboaaGreatDoor
namespace Go.Proofs.YtlgoeipgmjcboaaGreatDoor
open Go.RowKit Me

/-- The bytes have been put behind, out of a world that may be another one. -/
theorem app_post {a : Nat} {S : WSt} {vb vo v' : Value} {w W w1 : World} {m : Nat} {bs : List UInt8} {news : List Value} {F : List Nat} (h : IsW 195 W a S vb vo) (hm : Mods F w W) (hF : ∀ k ∈ F, k ∈ foot a vb vo) (hg : W.grownBy w1 vb.ownBlock)
    (hown : w1.ownsRow 0 5 1 v' (S.bytes.length + m) (S.bytes.map byteV ++ news)) (hat : v'.ownBlock = vb.ownBlock ∨ v'.ownBlock = some W.heap.size) (hn : news = bs.map byteV) (hf : S.bytes.length + bs.length ≤ S.limit) :
    WPost 195 w a vb vo (S.add bs) (w1.setCell ⟨a, 1, none⟩ v') := by
  have h3 := h.app (by decide) hg hown hat hn hf
  refine WPost.of_b h3.1 ((hm.mono (fun k hk => Or.inl (hF k hk))).trans h3.2 (fun b hb => Or.inl hb)) ?_
  rcases hat with e | e
  · exact Or.inl e
  · exact Or.inr ⟨_, e, hm.size⟩

set_option maxRecDepth 100000 in
set_option maxHeartbeats 400000 in
theorem raw_fits {a : Nat} {S : WSt} {vb vo vx : Value} {w : World} (h : IsW 195 w a S vb vo) (bs : List UInt8) (hx : Rd w vx (bs.map byteV)) (he : S.err = 0) (hf : S.bytes.length + bs.length ≤ S.limit) :
    Calls Tryz.prog 166 #[.pointer (some ⟨a, 0, none⟩), vx] w fun e w' => e = .returned (.tuple #[]) ∧ WPost 195 w a vb vo (S.add bs) w' := by
  have hl1 := h.wf.limit
  have hsz : S.bytes.length + bs.length ≤ 100000000 := by omega
  obtain ⟨A, c, hxe⟩ := hx.slice
  obtain rfl := hxe
  have H := Lib.hid h
  have HX := Lib.hid hx
  have HE := Lib.hid he
  have HF := Lib.hid hf
  rw [List.length_map]
  clear h he hf hx hl1
  go_enter Tryz.func166, Tryz.ntmps166
  go_wp2_with fail
  refine (room_fits H.out bs.length (by omega) (by omega) HE.out (by have := HF.out; omega)).mono ?_; rintro e w1 ⟨rfl, k, rfl⟩
  obtain ⟨c0, c1, c2, c3, f1, f2, f3⟩ := cell4 (H.out.drewN k).cells
  obtain ⟨i0, hi, hz0, hz1, hz2⟩ := info_parts info5
  clear c0 c2 c3 f2 f3
  go_wp2_with (at_builtin; go_must (refine wpList_app _ rfl _ _ 43 43 rfl 0 5 i0 (.int .u8 0) 1 1 Tryz.underlying43 hi hz0 hz1 hz2 rfl _ _ _ rfl (H.out.drewN k).b _ bs.length (bs.map byteV) rfl ?c1 ?c2 ?c3 ?c4 ?_))
  case c1 =>
    have := (HX.out.mods ((Mods.refl [] _).drewN k) (by simp)).src Tryz.underlying43 (bytes_one bs)
    rwa [List.length_map] at this
  case c2 => unfold maxLen; omega
  case c3 => omega
  case c4 => exact Nat.zero_le _
  intro v' w1 hown hgrow hat2
  have d1 : w1.cell? ⟨a, 1, none⟩ = some vb ∧ w1.frozen? ⟨a, 1, none⟩ = false := by
    have hr := wrow (H.out.drewN k) (by decide)
    have ha : w1.heap[a]? = _ := (hgrow.block a (Array.getElem?_eq_some_iff.1 (H.out.drewN k).cells).1 (fun e => hr.1 e.symm)).trans (H.out.drewN k).cells
    obtain ⟨_, d1, _, _, g1, _⟩ := cell4 ha
    exact ⟨d1, g1⟩
  obtain ⟨d1, g1⟩ := d1
  obtain ⟨A', c', rfl⟩ := own_ctor hown
  have HR := Lib.hid (app_post (H.out.drewN k) ((Mods.refl [] w).drewN k) (by simp) hgrow hown hat2 rfl HF.out)
  clear hown hgrow hat2 c1 f1
  go_wp2_with fail
  go_end0
  exact ⟨rfl, HR.out⟩
set_option maxHeartbeats 400000 in
theorem raw_any {a : Nat} {S : WSt} {vb vo vx : Value} {w : World} (h : IsW 195 w a S vb vo) (bs : List UInt8) (hx : Rd w vx (bs.map byteV)) :
    Calls Tryz.prog 166 #[.pointer (some ⟨a, 0, none⟩), vx] w fun e w' => e = .returned (.tuple #[]) ∧ WPost 195 w a vb vo (S.put bs) w' := by
  by_cases he : S.err = 0
  · by_cases hf : S.limit < S.bytes.length + bs.length
    · rw [WSt.put_full _ he hf]
      have hbm : bs.length ≤ maxLen := by obtain ⟨A, c, _, h1, h2, _⟩ := hx; rw [List.length_map] at h1; omega
      unfold maxLen at hbm
      obtain ⟨A, c, hxe⟩ := hx.slice
      obtain rfl := hxe
      have H := Lib.hid h
      have HE := Lib.hid he
      have HF := Lib.hid hf
      rw [List.length_map]
      clear h he hf hx
      go_enter Tryz.func166, Tryz.ntmps166
      go_wp2_with fail
      refine (room_full H.out (by decide) bs.length (by omega) (by omega) HE.out (by have := HF.out; omega)).mono ?_; rintro e w1 ⟨rfl, hw, hm⟩
      have HW := Lib.hid hw
      have HM := Lib.hid hm
      clear hw hm
      go_wp2_with fail
      go_end0
      exact ⟨rfl, WPost.same HW.out HM.out (by simp [foot])⟩
    · rw [WSt.put_fits _ he hf]
      exact raw_fits h bs hx he (by omega)
  · rw [WSt.put_err _ he]
    obtain ⟨A, c, hxe⟩ := hx.slice
    obtain rfl := hxe
    have H := Lib.hid h
    have HE := Lib.hid he
    clear h he hx
    go_enter Tryz.func166, Tryz.ntmps166
    go_wp2_with fail
    refine (room_err H.out _ HE.out).mono ?_; rintro e w1 ⟨rfl, rfl⟩
    go_wp2_with fail
    go_end0
    exact ⟨rfl, WPost.same H.out (Mods.refl [] _) (by simp)⟩

end Go.Proofs.YtlgoeipgmjcboaaGreatDoor
