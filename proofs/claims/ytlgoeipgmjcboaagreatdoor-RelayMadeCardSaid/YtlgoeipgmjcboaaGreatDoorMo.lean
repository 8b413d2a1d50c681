/- The fields' functions (fields of other widths, bytes, a qid): written. | The fields' functions (lists, a record): good, written. | The field of qids: written. -/
import Derived.Test.YtlgoeipgmjcboaaGreatDoorRw
namespace Go.Proofs.YtlgoeipgmjcboaaGreatDoor
open Go.RowKit Me

theorem OwnW.call {T : TypeId} {w0 w : World} {a : Nat} {S S' : WSt} {f : FuncId} {args : Array Value} {x : Value} (h : OwnW T w0 w a S)
    (hc : ∀ vb vo, IsW T w a S vb vo → Calls Tryz.prog f args w fun e w' => e = .returned x ∧ WPost T w a vb vo S' w') : Calls Tryz.prog f args w fun e w' => e = .returned x ∧ OwnW T w0 w' a S' := by
  obtain ⟨hm, vb, vo, h1, hk⟩ := h
  exact (hc vb vo h1).mono fun e w' ⟨he, hp⟩ => ⟨he, OwnW.next hm hk hp⟩
theorem OwnW.mods {T : TypeId} {w0 w : World} {a : Nat} {S : WSt} (h : OwnW T w0 w a S) : Mods [] w0 w := h.1
theorem foot6 {w0 : World} (hT : Lib.Utf8Tabs 4 5 w0) {F : List Nat} (hk : ∀ k ∈ F, w0.heap.size ≤ k) : ∀ k ∈ F, 6 ≤ k := by
  intro k hk'
  have := tabs_two hT
  have := hk k hk'
  omega
section
variable {m : MsgP} {vn vq vd : Value} {w0 w : World} {a b : Nat} {S : WSt}
theorem put146 (hM : IsM w0 b m vn vq vd) (hs : m.Fits) (h : OwnW 195 w0 w a S) :
    Calls Tryz.prog 146 #[.pointer (some ⟨a, 0, none⟩), .pointer (some ⟨b, 0, none⟩)] w fun e w' => e = .returned (.tuple #[]) ∧ OwnW 195 w0 w' a (S.put (le m.oldtag 2)) := by
  have c0 : w.cell? ⟨b, 8, none⟩ = some (.int .u16 (m.oldtag : Int)) := (hM.mods h.mods).cell 8
  have H := Lib.hid h
  have HB := Lib.hid hs.oldtag
  clear h hM hs
  go_enter Tryz.func146, Tryz.ntmps146
  go_wp2_with fail
  refine (H.out.call fun vb vo hw => u16_any hw m.oldtag (by have := HB.out; omega)).mono ?_; rintro e w1 ⟨rfl, hw⟩
  have HW := Lib.hid hw
  clear hw
  go_wp2_with fail
  go_end0
  exact ⟨rfl, HW.out⟩
theorem put152 (hM : IsM w0 b m vn vq vd) (hs : m.Fits) (h : OwnW 195 w0 w a S) :
    Calls Tryz.prog 152 #[.pointer (some ⟨a, 0, none⟩), .pointer (some ⟨b, 0, none⟩)] w fun e w' => e = .returned (.tuple #[]) ∧ OwnW 195 w0 w' a (S.put (le m.mode 1)) := by
  have c0 : w.cell? ⟨b, 16, none⟩ = some (.int .u8 (m.mode : Int)) := (hM.mods h.mods).cell 16
  have H := Lib.hid h
  have HB := Lib.hid hs.mode
  clear h hM hs
  go_enter Tryz.func152, Tryz.ntmps152
  go_wp2_with fail
  refine (H.out.call fun vb vo hw => u8_any hw m.mode (by have := HB.out; omega)).mono ?_; rintro e w1 ⟨rfl, hw⟩
  have HW := Lib.hid hw
  clear hw
  go_wp2_with fail
  go_end0
  exact ⟨rfl, HW.out⟩
theorem put158 (hM : IsM w0 b m vn vq vd) (hs : m.Fits) (h : OwnW 195 w0 w a S) :
    Calls Tryz.prog 158 #[.pointer (some ⟨a, 0, none⟩), .pointer (some ⟨b, 0, none⟩)] w fun e w' => e = .returned (.tuple #[]) ∧ OwnW 195 w0 w' a (S.put (le m.offset 8)) := by
  have c0 : w.cell? ⟨b, 20, none⟩ = some (.int .u64 (m.offset : Int)) := (hM.mods h.mods).cell 20
  have H := Lib.hid h
  have HB := Lib.hid hs.offset
  clear h hM hs
  go_enter Tryz.func158, Tryz.ntmps158
  go_wp2_with fail
  refine (H.out.call fun vb vo hw => u64_any hw m.offset (wrap_u64_big _ HB.out)).mono ?_; rintro e w1 ⟨rfl, hw⟩
  have HW := Lib.hid hw
  clear hw
  go_wp2_with fail
  go_end0
  exact ⟨rfl, HW.out⟩
theorem put174 (hM : IsM w0 b m vn vq vd) (hs : m.Fits) (h : OwnW 195 w0 w a S) :
    Calls Tryz.prog 174 #[.pointer (some ⟨a, 0, none⟩), .pointer (some ⟨b, 0, none⟩)] w fun e w' => e = .returned (.tuple #[]) ∧ OwnW 195 w0 w' a (S.qid m.qid) := by
  have c0 : w.cell? ⟨b, 13, none⟩ = some (.int .u8 (m.qid.kind : Int)) := (hM.mods h.mods).cell 13
  have c1 : w.cell? ⟨b, 14, none⟩ = some (.int .u32 (m.qid.vers : Int)) := (hM.mods h.mods).cell 14
  have c2 : w.cell? ⟨b, 15, none⟩ = some (.int .u64 (m.qid.path : Int)) := (hM.mods h.mods).cell 15
  have H := Lib.hid h
  have HB := Lib.hid hs.qid
  clear h hM hs
  go_enter Tryz.func174, Tryz.ntmps174
  go_wp2_with fail
  refine (H.out.call fun vb vo hw => putQid_any hw m.qid HB.out).mono ?_; rintro e w1 ⟨rfl, hw⟩
  have HW := Lib.hid hw
  clear hw
  go_wp2_with fail
  go_end0
  exact ⟨rfl, HW.out⟩
theorem put165 (hM : IsM w0 b m vn vq vd) (hd : m.data.length ≤ 100000000) (h : OwnW 195 w0 w a S) :
    Calls Tryz.prog 165 #[.pointer (some ⟨a, 0, none⟩), .pointer (some ⟨b, 0, none⟩)] w fun e w' => e = .returned (.tuple #[]) ∧ OwnW 195 w0 w' a ((S.put (le m.data.length 4)).put m.data) := by
  have hMw := hM.mods h.mods
  obtain ⟨A, c, hv⟩ := Rd.slice hMw.lists.data
  rw [List.length_map] at hv
  obtain rfl := hv
  have c0 : w.cell? ⟨b, 22, none⟩ = some (.slice A m.data.length c) := hMw.cell 22
  have H := Lib.hid h
  have HM := Lib.hid hM
  clear h hM hMw
  go_enter Tryz.func165, Tryz.ntmps165
  go_wp2_with fail
  refine (H.out.call fun vb vo hw => u32_any hw m.data.length (by omega)).mono ?_; rintro e w1 ⟨rfl, hw⟩
  have c1 : w1.cell? ⟨b, 22, none⟩ = some (.slice A m.data.length c) := (HM.out.mods hw.mods).cell 22
  have HW := Lib.hid hw
  have HD := Lib.hid (HM.out.mods hw.mods).lists.data
  clear hw c0
  go_wp2_with fail
  refine (HW.out.call fun vb vo hw => raw_any hw m.data HD.out).mono ?_; rintro e w2 ⟨rfl, hw⟩
  have HW2 := Lib.hid hw
  clear hw c1
  go_wp2_with fail
  go_end0
  exact ⟨rfl, HW2.out⟩
end
end Go.Proofs.YtlgoeipgmjcboaaGreatDoor
namespace Go.Proofs.YtlgoeipgmjcboaaGreatDoor
open Go.RowKit Me

section
variable {m : MsgP} {vn vq vd : Value} {w0 w : World} {a b : Nat} {S : WSt}
theorem good223 (hM : IsM w b m vn vq vd) (hq : m.qids.length ≤ 100000000) :
    Calls Tryz.prog 223 #[.pointer (some ⟨b, 0, none⟩)] w fun e w' => e = .returned (.bool (decide (m.qids.length ≤ 16))) ∧ Mods [] w w' := by
  obtain ⟨A, c, hv, -⟩ := id hM.lists.qids
  obtain rfl := hv
  have c0 : w.cell? ⟨b, 12, none⟩ = some (.slice A m.qids.length c) := hM.cell 12
  clear hM
  generalize m.qids.length = n at *
  go_enter Tryz.func223, Tryz.ntmps223
  by_cases e : n ≤ 16
  · have hd : decide ((n : Int) ≤ 16) = true := by simpa using (by omega : (n : Int) ≤ 16)
    go_wp2_with fail
    go_ret
    exact ⟨by simp [e], Mods.refl _ _⟩
  · have hd : decide ((n : Int) ≤ 16) = false := by simpa using (by omega : (16 : Int) < n)
    go_wp2_with fail
    go_ret
    exact ⟨by simp [e], Mods.refl _ _⟩
theorem notgood_any (t : ByteArray) (hs : t.size ≤ maxLen) (hT : Lib.Utf8Tabs 4 5 w) :
    Calls Tryz.prog 213 #[.string t] w fun e w' => e = .returned (.bool (!isGood t)) ∧ Mods [] w w' := by
  have HG := Lib.hid (good_any t w hs hT)
  clear hT
  go_enter Tryz.func213, Tryz.ntmps213
  go_wp2_with fail
  refine HG.out.mono ?_; rintro e w1 ⟨rfl, hm⟩
  have HM := Lib.hid hm
  clear hm
  go_wp2_with fail
  go_ret
  exact ⟨rfl, Mods.below HM.out _⟩
/-- Is there one of them that is not good? -/
def badAt (L : List ByteArray) : Int := match L.findIdx? fun t => !isGood t with | none => -1 | some i => (i : Int)
theorem indexBad (L : List ByteArray) (v : Value) (hv : Rd w v (L.map Value.string)) (hl : L.length ≤ 100000000) (hs : ∀ t ∈ L, t.size ≤ maxLen) (hT : Lib.Utf8Tabs 4 5 w) :
    Calls Tryz.prog 258 #[v, .func (.func 213) #[] #[]] w fun e w' => ∃ r : Int, e = .returned (.int .i64 r) ∧ (decide (0 ≤ r) = !L.all isGood) ∧ Mods [] w w' := by
  obtain ⟨A, c, rfl⟩ := Rd.slice hv
  rw [List.length_map] at hv ⊢
  have HV := Lib.hid hv
  have HS := Lib.hid hs
  have HT := Lib.hid hT
  clear hv hs hT
  go_enter Tryz.func258, Tryz.ntmps258
  go_wp2_with fail
  go_loopw [8] (fun i wr => ∃ k : Nat, k ≤ L.length ∧ i = .int .i64 k ∧ (L.take k).all isGood = true ∧ Mods [] w wr) (fun i _ => L.length - (intOf i).toNat)
  case atStart => exact ⟨0, by omega, rfl, by simp, Mods.refl _ _⟩
  case round =>
    obtain ⟨k, hk, rfl, hg, hm⟩ := hrel
    have HM := Lib.hid hm
    have HG := Lib.hid hg
    rcases Nat.lt_or_ge k L.length with hlt | hge
    · obtain ⟨t, hs⟩ : ∃ t, L[k]? = some t := ⟨_, List.getElem?_eq_getElem hlt⟩
      obtain ⟨A', c', e', -, -, h3⟩ := HV.out.mods hm (by simp)
      obtain ⟨g, off, eA, hc⟩ := h3 k (.string t) (by rw [List.getElem?_map, hs]; rfl)
      obtain rfl : A = A' := (Value.slice.inj e').1
      obtain rfl := eA
      clear h3 e'
      have HN := Lib.hid (notgood_any t (HS.out t (List.mem_of_getElem? hs)) (tabs_mods hm HT.out))
      have HK : Hid (L.take (k + 1) = L.take k ++ [t]) := Lib.hid (by rw [List.take_add_one, hs]; rfl)
      have HMEM := Lib.hid (List.mem_of_getElem? hs)
      clear hm hg hs
      go_wp2_with fail
      refine HN.out.mono ?_; rintro e w2 ⟨rfl, hm2⟩
      have HM2 := Lib.hid (HM.out.trans hm2 (by simp))
      clear hm2
      cases e : isGood t
      · go_wp2_with fail
        go_ret
        refine ⟨_, rfl, ?_, HM2.out⟩
        have : L.all isGood = false := by
          rw [List.all_eq_false]
          exact ⟨t, HMEM.out, by rw [e]; simp⟩
        rw [this]
        simp
      · go_wp2_with fail
        refine ⟨⟨k + 1, by omega, by simp, by rw [HK.out, List.all_append, HG.out]; simp [e], HM2.out⟩, by simp [intOf]; omega⟩
    · obtain rfl : k = L.length := by omega
      rw [List.take_length] at hg
      go_wp2_with fail
      go_ret
      exact ⟨_, rfl, by rw [hg]; rfl, HM.out⟩
theorem contBad (L : List ByteArray) (v : Value) (hv : Rd w v (L.map Value.string)) (hl : L.length ≤ 100000000) (hs : ∀ t ∈ L, t.size ≤ maxLen) (hT : Lib.Utf8Tabs 4 5 w) :
    Calls Tryz.prog 212 #[v, .func (.func 213) #[] #[]] w fun e w' => e = .returned (.bool (!L.all isGood)) ∧ Mods [] w w' := by
  have hi := indexBad L v hv hl hs hT
  obtain ⟨A, c, rfl⟩ := Rd.slice hv
  clear hv hs hT hl
  rw [List.length_map] at hi ⊢
  have HI := Lib.hid hi
  clear hi
  go_enter Tryz.func212, Tryz.ntmps212
  go_wp2_with fail
  refine HI.out.mono ?_; rintro e w1 ⟨r, rfl, hr, hm⟩
  have HM := Lib.hid hm
  have HR := Lib.hid hr
  clear hm hr
  by_cases e : 0 ≤ r
  · have hd : decide (0 ≤ r) = true := by simpa using e
    go_wp2_with fail
    go_ret
    exact ⟨by rw [← HR.out, hd]; rfl, HM.out⟩
  · have hd : decide (0 ≤ r) = false := by simpa using e
    go_wp2_with fail
    go_ret
    exact ⟨by rw [← HR.out, hd]; rfl, HM.out⟩
theorem good211 (hM : IsM w b m vn vq vd) (hl : m.names.length ≤ 100000000) (hs : ∀ t ∈ m.names, t.size ≤ maxLen) (hT : Lib.Utf8Tabs 4 5 w) :
    Calls Tryz.prog 211 #[.pointer (some ⟨b, 0, none⟩)] w fun e w' => e = .returned (.bool (decide (m.names.length ≤ 16) && m.names.all isGood)) ∧ Mods [] w w' := by
  have hc := contBad m.names vn hM.lists.names hl hs hT
  obtain ⟨A, c, hv⟩ := Rd.slice hM.lists.names
  rw [List.length_map] at hv
  obtain rfl := hv
  have HC := Lib.hid hc
  clear hc hl
  have c0 : w.cell? ⟨b, 11, none⟩ = some (.slice A m.names.length c) := hM.cell 11
  clear hM hs hT
  generalize m.names.all isGood = g at *
  generalize m.names.length = n at *
  go_enter Tryz.func211, Tryz.ntmps211
  by_cases e : n ≤ 16
  · have hd : decide ((n : Int) ≤ 16) = true := by simpa using (by omega : (n : Int) ≤ 16)
    go_wp2_with fail
    refine HC.out.mono ?_; rintro e w1 ⟨rfl, hm⟩
    have HM := Lib.hid hm
    clear hm c0
    go_wp2_with fail
    go_ret
    exact ⟨by simp [e], HM.out⟩
  · have hd : decide ((n : Int) ≤ 16) = false := by simpa using (by omega : (16 : Int) < n)
    go_wp2_with fail
    go_ret
    exact ⟨by simp [e], Mods.refl _ _⟩
theorem goods_any (t : ByteArray) (hs : t.size ≤ maxLen) (hT : Lib.Utf8Tabs 4 5 w) : Calls Tryz.prog 136 #[.string t] w fun e w' => e = .returned (.bool (isGood t)) ∧ Mods [] w w' :=
  (good_any t w hs hT).mono fun _ _ h => ⟨h.1, Mods.below h.2 _⟩
set_option maxHeartbeats 1000000 in
theorem good235 (hM : IsM w b m vn vq vd) (hs : ∀ t ∈ m.stat.texts, t.size ≤ maxLen) (hT : Lib.Utf8Tabs 4 5 w) :
    Calls Tryz.prog 235 #[.pointer (some ⟨b, 0, none⟩)] w fun e w' => e = .returned (.bool (m.stat.texts.all isGood)) ∧ Mods [] w w' := by
  have HM := Lib.hid hM
  have HT := Lib.hid hT
  have s1 := hs m.stat.name (by simp [StatP.texts])
  have s2 := hs m.stat.uid (by simp [StatP.texts])
  have s3 := hs m.stat.gid (by simp [StatP.texts])
  have s4 := hs m.stat.muid (by simp [StatP.texts])
  have c1 : w.cell? ⟨b, 32, none⟩ = some (.string m.stat.name) := hM.cell 32
  have HA : Hid (m.stat.texts.all isGood = (isGood m.stat.name && (isGood m.stat.uid && (isGood m.stat.gid && isGood m.stat.muid)))) := Lib.hid (by simp [StatP.texts])
  clear hM hs hT
  go_enter Tryz.func235, Tryz.ntmps235
  go_wp2_with fail
  refine (goods_any m.stat.name s1 HT.out).mono ?_; rintro e w1 ⟨rfl, hm⟩
  have HM1 := Lib.hid hm
  have c2 : w1.cell? ⟨b, 33, none⟩ = some (.string m.stat.uid) := (HM.out.mods hm).cell 33
  clear hm c1
  cases e1 : isGood m.stat.name
  · go_wp2_with fail
    go_ret
    exact ⟨by rw [HA.out, e1]; rfl, HM1.out⟩
  go_wp2_with fail
  refine (goods_any m.stat.uid s2 (tabs_mods HM1.out HT.out)).mono ?_; rintro e w2 ⟨rfl, hm⟩
  have HM2 := Lib.hid (HM1.out.trans hm (by simp))
  have c3 : w2.cell? ⟨b, 34, none⟩ = some (.string m.stat.gid) := (HM.out.mods HM2.out).cell 34
  clear hm c2
  cases e2 : isGood m.stat.uid
  · go_wp2_with fail
    go_ret
    exact ⟨by rw [HA.out, e1, e2]; rfl, HM2.out⟩
  go_wp2_with fail
  refine (goods_any m.stat.gid s3 (tabs_mods HM2.out HT.out)).mono ?_; rintro e w3 ⟨rfl, hm⟩
  have HM3 := Lib.hid (HM2.out.trans hm (by simp))
  have c4 : w3.cell? ⟨b, 35, none⟩ = some (.string m.stat.muid) := (HM.out.mods HM3.out).cell 35
  clear hm c3
  cases e3 : isGood m.stat.gid
  · go_wp2_with fail
    go_ret
    exact ⟨by rw [HA.out, e1, e2, e3]; rfl, HM3.out⟩
  go_wp2_with fail
  refine (goods_any m.stat.muid s4 (tabs_mods HM3.out HT.out)).mono ?_; rintro e w4 ⟨rfl, hm⟩
  have HM4 := Lib.hid (HM3.out.trans hm (by simp))
  clear hm c4
  go_wp2_with fail
  go_ret
  exact ⟨by rw [HA.out, e1, e2, e3]; rfl, HM4.out⟩
theorem putList_any (L : List ByteArray) (v : Value) (hv : Rd w0 v (L.map Value.string)) (hl : L.length ≤ 16) (hs : ∀ t ∈ L, t.size ≤ maxLen) (hT : Lib.Utf8Tabs 4 5 w0) (h : OwnW 195 w0 w a S) :
    Calls Tryz.prog 215 #[.pointer (some ⟨a, 0, none⟩), v, .func (.func 138) #[.pointer (some ⟨a, 0, none⟩)] #[]] w fun e w' => e = .returned (.tuple #[]) ∧ OwnW 195 w0 w' a (L.foldl (fun S t => S.text t.data.toList) (S.put (le L.length 2))) := by
  obtain ⟨A, c, rfl⟩ := Rd.slice hv
  rw [List.length_map] at hv ⊢
  have HV := Lib.hid hv
  have HS := Lib.hid hs
  have HT := Lib.hid hT
  have H := Lib.hid h
  clear hv hs hT h
  go_enter Tryz.func215, Tryz.ntmps215
  go_wp2_with fail
  refine (H.out.call fun vb vo hw => u16_any hw L.length (by omega)).mono ?_; rintro e w1 ⟨rfl, hw⟩
  have HW := Lib.hid hw
  clear hw
  go_wp2_with fail
  go_loopw [15] (fun i wr => ∃ k : Nat, k ≤ L.length ∧ i = .int .i64 k ∧ OwnW 195 w0 wr a ((L.take k).foldl (fun S t => S.text t.data.toList) (S.put (le L.length 2)))) (fun i _ => L.length - (intOf i).toNat)
  case atStart => exact ⟨0, by omega, rfl, HW.out⟩
  case round =>
    obtain ⟨k, hk, rfl, hw⟩ := hrel
    have HR := Lib.hid hw
    rcases Nat.lt_or_ge k L.length with hlt | hge
    · obtain ⟨t, hs⟩ : ∃ t, L[k]? = some t := ⟨_, List.getElem?_eq_getElem hlt⟩
      obtain ⟨A', c', e', -, -, h3⟩ := HV.out.mods hw.mods (by simp)
      obtain ⟨g, off, eA, hc⟩ := h3 k (.string t) (by rw [List.getElem?_map, hs]; rfl)
      obtain rfl : A = A' := (Value.slice.inj e').1
      obtain rfl := eA
      have HTt := Lib.hid (HS.out t (List.mem_of_getElem? hs))
      have HK : Hid (L.take (k + 1) = L.take k ++ [t]) := Lib.hid (by rw [List.take_add_one, hs]; rfl)
      have HTw := Lib.hid (tabs_mods hw.mods HT.out)
      clear h3 e' hw hs
      go_wp2_with fail
      refine (HR.out.call fun vb vo hw => text_any hw t HTt.out HTw.out).mono ?_; rintro e w2 ⟨rfl, hw⟩
      have HW2 := Lib.hid hw
      clear hw
      go_wp2_with fail
      refine ⟨⟨k + 1, by omega, by simp, by rw [HK.out, List.foldl_append]; exact HW2.out⟩, by simp [intOf]; omega⟩
    · obtain rfl : k = L.length := by omega
      rw [List.take_length] at hw
      have HR2 := Lib.hid hw
      clear hw HR
      go_wp2_with fail
      go_end0
      exact ⟨rfl, HR2.out⟩
theorem put214 (hM : IsM w0 b m vn vq vd) (hl : m.names.length ≤ 16) (hs : ∀ t ∈ m.names, t.size ≤ maxLen) (hT : Lib.Utf8Tabs 4 5 w0) (h : OwnW 195 w0 w a S) :
    Calls Tryz.prog 214 #[.pointer (some ⟨a, 0, none⟩), .pointer (some ⟨b, 0, none⟩)] w fun e w' => e = .returned (.tuple #[]) ∧ OwnW 195 w0 w' a (m.names.foldl (fun S t => S.text t.data.toList) (S.put (le m.names.length 2))) := by
  have hc := putList_any m.names vn hM.lists.names hl hs hT h
  obtain ⟨A, c, hv⟩ := Rd.slice hM.lists.names
  rw [List.length_map] at hv
  obtain rfl := hv
  have c0 : w.cell? ⟨b, 11, none⟩ = some (.slice A m.names.length c) := (hM.mods h.mods).cell 11
  have HC := Lib.hid hc
  clear hc hl hM hs hT h
  go_enter Tryz.func214, Tryz.ntmps214
  go_wp2_with fail
  refine HC.out.mono ?_; rintro e w1 ⟨rfl, hw⟩
  have HW := Lib.hid hw
  clear hw
  go_wp2_with fail
  go_end0
  exact ⟨rfl, HW.out⟩
/-- One call more: what is kept is not the writer's. -/
theorem WAt.call2 {T : TypeId} {w0 w : World} {a : Nat} {S S' : WSt} {vb0 vo0 : Value} {K : Nat → Prop} {f : FuncId} {args : Array Value} {x : Value} (h : WAt T w0 a vb0 vo0 K S w)
    (hc : ∀ vb vo, IsW T w a S vb vo → (∀ k, K k → k ∉ foot a vb vo) → Calls Tryz.prog f args w fun e w' => e = .returned x ∧ WPost T w a vb vo S' w') :
    Calls Tryz.prog f args w fun e w' => e = .returned x ∧ WAt T w0 a vb0 vo0 K S' w' := by
  obtain ⟨vb, vo, h1, h2, h3, h4⟩ := h
  refine (hc vb vo h1 (fun k hk => (h4 k hk).2)).mono fun e w' hh => ⟨hh.1, ?_⟩
  obtain ⟨vb', vo', g1, g2, g3⟩ := hh.2
  refine ⟨vb', vo', g1, h2.trans g2 h3, fun k hk => ?_, fun k hk => ?_⟩
  · rcases g3 k hk with h | h
    · exact h3 k h
    · exact Or.inr (Nat.le_trans h2.size h)
  · have := h4 k hk
    refine ⟨Nat.lt_of_lt_of_le this.1 g2.size, fun hm => ?_⟩
    rcases g3 k hm with h | h
    · exact this.2 h
    · omega
set_option maxHeartbeats 1000000 in
/-- putStat: a record with its count ahead. -/
theorem putStat_any {vb vo : Value} (h : IsW 195 w a S vb vo) (hF : ∀ k ∈ foot a vb vo, 6 ≤ k) (hT : Lib.Utf8Tabs 4 5 w) (s : StatP) (hs : s.Fits) (hz : s.size ≤ 600000000000000) :
    Calls Tryz.prog 237 #[.pointer (some ⟨a, 0, none⟩), .agg (statV s)] w fun e w' => e = .returned (.tuple #[]) ∧ WPost 195 w a vb vo ((S.opn.1.stat s).shut S.opn.2) w' := by
  have W0 := Lib.hid ((WAt.start2 h hF hT).alloc (.cells (statV s) 45))
  have R0 := Lib.hid (heap_alloc_new w (.cells (statV s) 45))
  have HS := Lib.hid hs
  have TA := Lib.hid (tabs_heap (w := w) (w' := w.alloc (.cells (statV s) 45)) (fun k h => Go.heap_alloc_old w _ (by have := tabs_two hT; omega)) hT)
  clear h hF hT hs
  obtain ⟨typ, dev, ⟨kind, vers, path⟩, mode, atime, mtime, length, name, uid, gid, muid⟩ := s
  simp only [statV] at *
  go_enter Tryz.func237, Tryz.ntmps237
  go_wp2_with fail
  generalize w.heap.size = b at *
  refine (W0.out.call (fun _ _ h => open_any h)).mono ?_; rintro e w1 ⟨rfl, hw, hk⟩
  have W1 := Lib.hid hw
  have r1 := (hk _ (Or.inr rfl)).trans R0.out
  have c0 : w1.cell? ⟨b, 0, none⟩ = some (.int .u16 (typ : Int)) := by rw [cell_of_row _ _ _ _ _ _ r1]; rfl
  have c1 : w1.cell? ⟨b, 1, none⟩ = some (.int .u32 (dev : Int)) := by rw [cell_of_row _ _ _ _ _ _ r1]; rfl
  have c2 : w1.cell? ⟨b, 2, none⟩ = some (.int .u8 (kind : Int)) := by rw [cell_of_row _ _ _ _ _ _ r1]; rfl
  have c3 : w1.cell? ⟨b, 3, none⟩ = some (.int .u32 (vers : Int)) := by rw [cell_of_row _ _ _ _ _ _ r1]; rfl
  have c4 : w1.cell? ⟨b, 4, none⟩ = some (.int .u64 (path : Int)) := by rw [cell_of_row _ _ _ _ _ _ r1]; rfl
  have c5 : w1.cell? ⟨b, 5, none⟩ = some (.int .u32 (mode : Int)) := by rw [cell_of_row _ _ _ _ _ _ r1]; rfl
  have c6 : w1.cell? ⟨b, 6, none⟩ = some (.int .u32 (atime : Int)) := by rw [cell_of_row _ _ _ _ _ _ r1]; rfl
  have c7 : w1.cell? ⟨b, 7, none⟩ = some (.int .u32 (mtime : Int)) := by rw [cell_of_row _ _ _ _ _ _ r1]; rfl
  have c8 : w1.cell? ⟨b, 8, none⟩ = some (.int .u64 (length : Int)) := by rw [cell_of_row _ _ _ _ _ _ r1]; rfl
  have c9 : w1.cell? ⟨b, 9, none⟩ = some (.string name) := by rw [cell_of_row _ _ _ _ _ _ r1]; rfl
  have c10 : w1.cell? ⟨b, 10, none⟩ = some (.string uid) := by rw [cell_of_row _ _ _ _ _ _ r1]; rfl
  have c11 : w1.cell? ⟨b, 11, none⟩ = some (.string gid) := by rw [cell_of_row _ _ _ _ _ _ r1]; rfl
  have c12 : w1.cell? ⟨b, 12, none⟩ = some (.string muid) := by rw [cell_of_row _ _ _ _ _ _ r1]; rfl
  have T1 := Lib.hid (tabs_heap (fun k h => (hk k (Or.inl h))) TA.out)
  clear hw hk r1 R0 TA
  generalize hpl : S.opn.2 = place at *
  have HPL := Lib.hid hpl
  clear hpl
  go_wp2_with fail
  have HC := Lib.hid (W1.out.call2 (fun _ _ h hK => put_any h (fun k hk => (Nat.lt_or_ge k 6).elim (fun h6 => absurd hk (hK k (Or.inl h6))) id) T1.out ⟨typ, dev, ⟨kind, vers, path⟩, mode, atime, mtime, length, name, uid, gid, muid⟩ HS.out hz))
  simp only [statV] at HC
  clear c0 c1 c2 c3 c4 c5 c6 c7 c8 c9 c10 c11 c12
  refine HC.out.mono ?_; rintro e w2 ⟨rfl, hw⟩
  have W2 := Lib.hid hw
  clear hw HC W1 T1 HS
  generalize hSS : S.opn.1.stat ⟨typ, dev, ⟨kind, vers, path⟩, mode, atime, mtime, length, name, uid, gid, muid⟩ = S2 at *
  have HSS := Lib.hid hSS
  clear hSS
  go_wp2_with fail
  refine (W2.out.call (fun _ _ h => shut_any h place)).mono ?_; rintro e w3 ⟨rfl, hw, hk⟩
  have W3 := Lib.hid hw
  clear hw hk
  go_wp2_with fail
  go_end0
  refine ⟨rfl, ?_⟩
  rw [HSS.out, HPL.out]
  exact W3.out.post
theorem put236 (hM : IsM w0 b m vn vq vd) (hs : m.stat.Fits) (hz : m.stat.size ≤ 600000000000000) (hT : Lib.Utf8Tabs 4 5 w0) (h : OwnW 195 w0 w a S) :
    Calls Tryz.prog 236 #[.pointer (some ⟨a, 0, none⟩), .pointer (some ⟨b, 0, none⟩)] w fun e w' => e = .returned (.tuple #[]) ∧ OwnW 195 w0 w' a ((S.opn.1.stat m.stat).shut S.opn.2) := by
  have hMw := hM.mods h.mods
  have c0 : w.cell? ⟨b, 23, none⟩ = some (.int .u16 (m.stat.typ : Int)) := hMw.cell 23
  have c1 : w.cell? ⟨b, 24, none⟩ = some (.int .u32 (m.stat.dev : Int)) := hMw.cell 24
  have c2 : w.cell? ⟨b, 25, none⟩ = some (.int .u8 (m.stat.qid.kind : Int)) := hMw.cell 25
  have c3 : w.cell? ⟨b, 26, none⟩ = some (.int .u32 (m.stat.qid.vers : Int)) := hMw.cell 26
  have c4 : w.cell? ⟨b, 27, none⟩ = some (.int .u64 (m.stat.qid.path : Int)) := hMw.cell 27
  have c5 : w.cell? ⟨b, 28, none⟩ = some (.int .u32 (m.stat.mode : Int)) := hMw.cell 28
  have c6 : w.cell? ⟨b, 29, none⟩ = some (.int .u32 (m.stat.atime : Int)) := hMw.cell 29
  have c7 : w.cell? ⟨b, 30, none⟩ = some (.int .u32 (m.stat.mtime : Int)) := hMw.cell 30
  have c8 : w.cell? ⟨b, 31, none⟩ = some (.int .u64 (m.stat.length : Int)) := hMw.cell 31
  have c9 : w.cell? ⟨b, 32, none⟩ = some (.string m.stat.name) := hMw.cell 32
  have c10 : w.cell? ⟨b, 33, none⟩ = some (.string m.stat.uid) := hMw.cell 33
  have c11 : w.cell? ⟨b, 34, none⟩ = some (.string m.stat.gid) := hMw.cell 34
  have c12 : w.cell? ⟨b, 35, none⟩ = some (.string m.stat.muid) := hMw.cell 35
  have H := Lib.hid h
  have HS := Lib.hid hs
  have HT := Lib.hid hT
  clear hM hMw hs hT h
  generalize m.stat = s at *
  obtain ⟨typ, dev, ⟨kind, vers, path⟩, mode, atime, mtime, length, name, uid, gid, muid⟩ := s
  simp only at *
  go_enter Tryz.func236, Tryz.ntmps236
  go_wp2_with fail
  obtain ⟨hm, vb, vo, h1, hk⟩ := H.out
  refine (putStat_any h1 (foot6 HT.out hk) (tabs_mods hm HT.out) ⟨typ, dev, ⟨kind, vers, path⟩, mode, atime, mtime, length, name, uid, gid, muid⟩ HS.out hz).mono ?_; rintro e w1 ⟨rfl, hp⟩
  have HW := Lib.hid (OwnW.next hm hk hp)
  clear hp h1 hm hk c0 c1 c2 c3 c4 c5 c6 c7 c8 c9 c10 c11 c12
  go_wp2_with fail
  go_end0
  exact ⟨rfl, HW.out⟩
end
end Go.Proofs.YtlgoeipgmjcboaaGreatDoor
namespace Go.Proofs.YtlgoeipgmjcboaaGreatDoor
open Go.RowKit Me

theorem WAt.startK {T : TypeId} {w : World} {a : Nat} {S : WSt} {vb vo : Value} (h : IsW T w a S vb vo) (K : Nat → Prop) (hK : ∀ k, K k → k < w.heap.size ∧ k ∉ foot a vb vo) : WAt T w a vb vo K S w :=
  ⟨vb, vo, h, Mods.refl _ _, fun _ hk => Or.inl hk, hK⟩
theorem WAt.weaken {T : TypeId} {w0 w : World} {a : Nat} {S : WSt} {vb vo : Value} {K K' : Nat → Prop} (h : WAt T w0 a vb vo K S w) (hK : ∀ k, K' k → K k) : WAt T w0 a vb vo K' S w := by
  obtain ⟨vb', vo', h1, h2, h3, h4⟩ := h
  exact ⟨vb', vo', h1, h2, h3, fun k hk => h4 k (hK k hk)⟩
theorem WAt.lt {T : TypeId} {w0 w : World} {a : Nat} {S : WSt} {vb vo : Value} {K : Nat → Prop} (h : WAt T w0 a vb vo K S w) {k : Nat} (hk : K k) : k < w.heap.size := by
  obtain ⟨vb', vo', h1, h2, h3, h4⟩ := h
  exact (h4 k hk).1
theorem alloc_old {w : World} {k : Nat} (o : Obj) (hk : k < w.heap.size) : (w.alloc o).heap[k]? = w.heap[k]? := Go.heap_alloc_old w _ hk
theorem put226 {w1 w : World} {a c : Nat} {S : WSt} {vb vo : Value} {K : Nat → Prop} (hW : WAt 195 w1 a vb vo K S w) (hK : K c) (hc : w.heap[c]? = some (.cells #[.pointer (some ⟨a, 0, none⟩)] 162 (0, 0))) (q : QidP) (hq : q.Fits) :
    Calls Tryz.prog 226 #[.agg (qidV q), .pointer (some ⟨c, 0, none⟩)] w fun e w' => e = .returned (.tuple #[]) ∧ WAt 195 w1 a vb vo K (S.qid q) w' ∧ ∀ k, K k → w'.heap[k]? = w.heap[k]? := by
  have W0 := Lib.hid ((hW.alloc (.cells (qidV q) 42)).weaken (K' := K) (fun k hk => Or.inl hk))
  have hlt := hW.lt hK
  have d0 : (w.alloc (.cells (qidV q) 42)).cell? ⟨c, 0, none⟩ = some (.pointer (some ⟨a, 0, none⟩)) := by rw [cell_of_row _ _ _ _ _ _ ((alloc_old _ hlt).trans hc)]; rfl
  have HQ := Lib.hid hq
  have HO : Hid (∀ k, K k → (w.alloc (.cells (qidV q) 42)).heap[k]? = w.heap[k]?) := Lib.hid (fun k hk => alloc_old _ (hW.lt hk))
  clear hW hc hq hlt
  obtain ⟨kind, vers, path⟩ := q
  simp only [qidV] at *
  go_enter Tryz.func226, Tryz.ntmps226
  go_wp2_with fail
  refine (W0.out.call (fun _ _ h => putQid_any h ⟨kind, vers, path⟩ HQ.out)).mono ?_; rintro e w2 ⟨rfl, hw, hk⟩
  have W2 := Lib.hid hw
  have HK2 : Hid (∀ k, K k → w2.heap[k]? = w.heap[k]?) := Lib.hid (fun k h => (hk k h).trans (HO.out k h))
  clear hw hk d0
  go_wp2_with fail
  go_end0
  exact ⟨rfl, W2.out, HK2.out⟩
theorem putListQ {w1 w : World} {a c c' : Nat} {A : Option Addr} {S : WSt} {vb vo : Value} {K : Nat → Prop} (hW : WAt 195 w1 a vb vo K S w) (hK : K c) (hc : w.heap[c]? = some (.cells #[.pointer (some ⟨a, 0, none⟩)] 162 (0, 0)))
    (L : List QidP) (hl : L.length ≤ 16) (hq : ∀ q ∈ L, q.Fits) (hr : ∀ i q, L[i]? = some q → ∃ g off, A = some ⟨g, off, none⟩ ∧ K g ∧ w.rangeAt g (off + i * 3) (qidC q)) :
    Calls Tryz.prog 225 #[.pointer (some ⟨a, 0, none⟩), .slice A L.length c', .func (.func 226) #[] #[.pointer (some ⟨c, 0, none⟩)]] w fun e w' => e = .returned (.tuple #[]) ∧ WAt 195 w1 a vb vo K (L.foldl WSt.qid (S.put (le L.length 2))) w' := by
  have W0 := Lib.hid hW
  have HC := Lib.hid hc
  have HQ := Lib.hid hq
  have HR := Lib.hid hr
  clear hW hc hq hr
  go_enter Tryz.func225, Tryz.ntmps225
  go_wp2_with fail
  refine (W0.out.call (fun _ _ h => u16_any h L.length (by omega))).mono ?_; rintro e w2 ⟨rfl, hw, hk⟩
  have W2 := Lib.hid hw
  have HK2 := Lib.hid hk
  clear hw hk
  go_wp2_with fail
  go_loopw [15] (fun i wr => ∃ k : Nat, k ≤ L.length ∧ i = .int .i64 k ∧ WAt 195 w1 a vb vo K ((L.take k).foldl WSt.qid (S.put (le L.length 2))) wr ∧ ∀ k, K k → wr.heap[k]? = w.heap[k]?) (fun i _ => L.length - (intOf i).toNat)
  case atStart => exact ⟨0, by omega, rfl, W2.out, HK2.out⟩
  case round =>
    obtain ⟨k, hk, rfl, hw, hs⟩ := hrel
    have WR := Lib.hid hw
    have HS := Lib.hid hs
    rcases Nat.lt_or_ge k L.length with hlt | hge
    · obtain ⟨q, hs'⟩ : ∃ q, L[k]? = some q := ⟨_, List.getElem?_eq_getElem hlt⟩
      obtain ⟨g, off, rfl, hKg, hrg⟩ := HR.out k q hs'
      have hcell : ∀ j v, (qidC q)[j]? = some v → wr.cell? ⟨g, off + k * 3 + j, none⟩ = some v := fun j v hj => by
        rw [World.cell?_of_block (w := w) (show wr.heap[g]? = w.heap[g]? from hs g hKg)]
        exact hrg j v hj
      have c0 := hcell 0 _ rfl
      have c1 := hcell 1 _ rfl
      have c2 := hcell 2 _ rfl
      have HQQ := Lib.hid (HQ.out q (List.mem_of_getElem? hs'))
      have HTK : Hid (L.take (k + 1) = L.take k ++ [q]) := Lib.hid (by rw [List.take_add_one, hs']; rfl)
      have WA := Lib.hid ((hw.alloc (.cells (qidV q) 42)).weaken (K' := K) (fun k hk => Or.inl hk))
      have HCA : Hid ((wr.alloc (.cells (qidV q) 42)).heap[c]? = some (.cells #[.pointer (some ⟨a, 0, none⟩)] 162 (0, 0))) := Lib.hid ((alloc_old _ (hw.lt hK)).trans ((hs c hK).trans HC.out))
      have HSA : Hid (∀ k, K k → (wr.alloc (.cells (qidV q) 42)).heap[k]? = w.heap[k]?) := Lib.hid (fun k hk => (alloc_old _ (hw.lt hk)).trans (hs k hk))
      clear hw hs hs' hcell hrg hKg
      obtain ⟨kind, vers, path⟩ := q
      simp only [qidV, Nat.add_zero] at *
      go_wp2_with fail
      refine (put226 WA.out hK HCA.out ⟨kind, vers, path⟩ HQQ.out).mono ?_; rintro e w3 ⟨rfl, hw, hk3⟩
      have W3 := Lib.hid hw
      have HS3 : Hid (∀ k, K k → w3.heap[k]? = w.heap[k]?) := Lib.hid (fun k h => (hk3 k h).trans (HSA.out k h))
      clear hw hk3 c0 c1 c2
      go_wp2_with fail
      refine ⟨⟨k + 1, by omega, by simp, by rw [HTK.out, List.foldl_append]; exact W3.out, HS3.out⟩, by simp [intOf]; omega⟩
    · obtain rfl : k = L.length := by omega
      rw [List.take_length] at hw
      have WE := Lib.hid hw
      clear hw WR hs HS
      go_wp2_with fail
      go_end0
      exact ⟨rfl, WE.out⟩
theorem put224 {w0 w : World} {a b : Nat} {S : WSt} {m : MsgP} {vn vq vd : Value} (hM : IsM w0 b m vn vq vd) (hl : m.qids.length ≤ 16) (hs : ∀ q ∈ m.qids, q.Fits) (h : OwnW 195 w0 w a S) :
    Calls Tryz.prog 224 #[.pointer (some ⟨a, 0, none⟩), .pointer (some ⟨b, 0, none⟩)] w fun e w' => e = .returned (.tuple #[]) ∧ OwnW 195 w0 w' a (m.qids.foldl WSt.qid (S.put (le m.qids.length 2))) := by
  obtain ⟨hm, vb, vo, h1, hk⟩ := h
  have hmw := hM.mods hm
  obtain ⟨A, c', hv, -, -, hr⟩ := hmw.lists.qids
  obtain rfl := hv
  have HA := Lib.hid ((alloc_old (.cells #[.pointer (some ⟨a, 0, none⟩)] 162) (Array.getElem?_eq_some_iff.1 hmw.row).1).trans hmw.row)
  have d0 : ∀ o, (w.alloc o).cell? ⟨b, 12, none⟩ = some (.slice A m.qids.length c') := fun o => by
    rw [cell_of_row _ _ _ _ _ _ ((alloc_old o (Array.getElem?_eq_some_iff.1 hmw.row).1).trans hmw.row)]
    rfl
  have HC := Lib.hid (putListQ (w := (w.alloc (.cells #[.pointer (some ⟨a, 0, none⟩)] 162)).drew) (c := w.heap.size) (c' := c') (A := A) (K := fun k => k < w0.heap.size ∨ k = w.heap.size)
    ((((WAt.startK h1 (fun k => k < w0.heap.size) (fun k hk' => ⟨Nat.lt_of_lt_of_le hk' hm.size, fun hm' => by have := hk k hm'; omega⟩)).alloc (.cells #[.pointer (some ⟨a, 0, none⟩)] 162))).drewN 1)
    (Or.inr rfl) (heap_alloc_new w _) m.qids hl hs (fun i q hiq => by
      obtain ⟨A0, c0, hv0, -, -, hr0⟩ := hM.lists.qids
      obtain ⟨g, off, e0, hg⟩ := hr0 i q hiq
      obtain rfl := (Value.slice.inj hv0).1
      refine ⟨g, off, e0, Or.inl (World.block_lt_of_cell? w0 _ (hg 0 _ rfl)), ?_⟩
      exact range_mods (range_mods hg hm (by simp)) ((Mods.refl [] w).alloc _).drew (by simp)))
  clear hr hM hmw HA hs
  go_enter Tryz.func224, Tryz.ntmps224
  go_wp2_with fail
  go_region_with (go_at_call 225; refine HC.out.mono ?_; rintro e w1 ⟨rfl, hr⟩; have HR := Lib.hid hr; clear hr; go_simp)
  all_goals go_end0
  all_goals exact ⟨rfl, OwnW.next hm hk HR.out.post⟩
end Go.Proofs.YtlgoeipgmjcboaaGreatDoor
