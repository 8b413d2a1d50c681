/- Lists of entries in memory; is there one that may not be? -/
import Derived.Test.YtmcekhgmmocajaaDoorEm
import Derived.Deep.MidRow
namespace Go.Proofs.YtmcekhgmmocajaaDoor
open Go.RowKit Me

def entC (e : EntP) (vd : Value) : List Value := [.string e.path, .int .u32 (e.mode : Int), .int .u32 (e.mtime : Int), .string e.gid, vd]
theorem entV_agg (e : EntP) (vd : Value) : entV e vd = .agg (entC e vd).toArray := rfl
/-- A slice of entries. -/
def Ents (w : World) (v : Value) (L : List EntP) : Prop :=
  ∃ A c, v = .slice A L.length c ∧ L.length ≤ c ∧ c ≤ maxLen ∧ ∀ i e, L[i]? = some e → ∃ g off vd, A = some ⟨g, off, none⟩ ∧ w.rangeAt g (off + i * 5) (entC e vd) ∧ Rd w vd (e.data.map byteV)
theorem range_mods {w w' : World} {F : List Nat} {g o : Nat} {cs : List Value} (h : w.rangeAt g o cs) (hm : Mods F w w') (hn : g ∉ F) : w'.rangeAt g o cs := by
  intro j v hj
  have hc := h j v hj
  rw [hm.cell (p := ⟨g, o + j, none⟩) (World.block_lt_of_cell? w _ hc) hn]
  exact hc
theorem Ents.mods {w w' : World} {v : Value} {L : List EntP} (h : Ents w v L) (hm : Mods [] w w') : Ents w' v L := by
  obtain ⟨A, c, e, h1, h2, h3⟩ := h
  refine ⟨A, c, e, h1, h2, fun i p hp => ?_⟩
  obtain ⟨g, off, vd, e1, h4, h5⟩ := h3 i p hp
  exact ⟨g, off, vd, e1, range_mods h4 hm (by simp), h5.mods hm (by simp)⟩
theorem Ents.at {w : World} {A : Option Addr} {n c : Nat} {L : List EntP} (h : Ents w (.slice A n c) L) {i : Nat} {e : EntP} (hs : L[i]? = some e) : ∃ g off vd, A = some ⟨g, off, none⟩ ∧ w.rangeAt g (off + i * 5) (entC e vd) ∧ Rd w vd (e.data.map byteV) := by
  obtain ⟨A', c', e, _, _, h3⟩ := h
  have e0 := (Value.slice.inj e).1
  subst e0
  exact h3 i _ hs
theorem range_ent {w : World} {g o : Nat} {e : EntP} {vd : Value} (h : w.rangeAt g o (entC e vd)) :
    w.cell? ⟨g, o, none⟩ = some (.string e.path) ∧ w.cell? ⟨g, o + 1, none⟩ = some (.int .u32 (e.mode : Int)) ∧ w.cell? ⟨g, o + 2, none⟩ = some (.int .u32 (e.mtime : Int)) ∧ w.cell? ⟨g, o + 3, none⟩ = some (.string e.gid) ∧ w.cell? ⟨g, o + 4, none⟩ = some vd :=
  ⟨h 0 _ rfl, h 1 _ rfl, h 2 _ rfl, h 3 _ rfl, h 4 _ rfl⟩
theorem info38t : (Tryd.prog.info? 38).map (·.size) = some 5 := by kernel_rfl
/-- What is handed in: entries of a size that can be. -/
structure Small (e : EntP) : Prop extends e.Fits where
  path : e.path.size ≤ 100000000
  gid : e.gid.size ≤ 100000000
  data : e.data.length ≤ 100000000

theorem notmay_any (e : EntP) (vd : Value) (w : World) (hf : Small e) (hv : Rd w vd (e.data.map byteV)) (hT : Tabs w) :
    Calls Tryd.prog 13 #[entV e vd] w fun x w' => x = .returned (.bool (!mayE e)) ∧ Mods [] w w' := by
  have H1 := Lib.hid (fun w' (hw : Mods [] w w') => may_any e vd w' hf.toFits (hv.mods hw (by simp)) (by have := hf.path; omega) (by have := hf.gid; unfold maxLen; omega) (hT.mods hw))
  obtain ⟨A, c, rfl, -⟩ := hv
  rw [List.length_map] at *
  unfold entV at *
  generalize mayE e = q at *
  have HA := Lib.hid ((Mods.refl [] w).alloc (.cells #[.string e.path, .int .u32 (e.mode : Int), .int .u32 (e.mtime : Int), .string e.gid, .slice A e.data.length c] 38))
  go_enter Tryd.func13, Tryd.ntmps13
  go_wp2_with fail
  refine (H1.out _ HA.out).mono ?_
  rintro x w1 ⟨rfl, hm⟩
  have HM := Lib.hid (HA.out.trans hm (by simp))
  clear hm
  go_wp2_with fail
  go_ret
  exact ⟨rfl, HM.out⟩
def RelIx (w : World) (L : List EntP) (i : Value) (wr : World) : Prop := ∃ k : Nat, k ≤ L.length ∧ i = .int .i64 k ∧ (L.take k).all mayE = true ∧ Mods [] w wr
set_option maxRecDepth 100000 in
set_option maxHeartbeats 1000000 in
theorem indexfunc_any {w : World} (L : List EntP) {v : Value} (h : Ents w v L) (hz : ∀ e ∈ L, Small e) (hT : Tabs w) :
    Calls Tryd.prog 30 #[v, .func (.func 13) #[] #[]] w fun x w' => (∃ i : Int, x = .returned (.int .i64 i) ∧ (L.all mayE = decide (i < 0))) ∧ Mods [] w w' := by
  have H := Lib.hid h
  have HZ := Lib.hid hz
  obtain ⟨A, c, rfl, h1, h2, -⟩ := h
  have hLm : L.length ≤ 9223372036854775807 := by unfold maxLen at h2; omega
  clear hz h1 h2
  go_enter Tryd.func30, Tryd.ntmps30
  go_wp2_with fail
  go_loopw [8] (fun i wr => RelIx w L i wr) (fun i _ => L.length - (intOf i).toNat)
  case atStart => exact ⟨0, by omega, rfl, by simp, Mods.refl _ _⟩
  case round =>
    obtain ⟨k, hk, rfl, hall, hmm⟩ := hrel
    have HALL := Lib.hid hall
    have HMM := Lib.hid hmm
    rcases Nat.lt_or_ge k L.length with hlt | hge
    · obtain ⟨e, hs⟩ : ∃ e, L[k]? = some e := ⟨_, List.getElem?_eq_getElem hlt⟩
      obtain ⟨g, off, vd, rfl, hrg, hrd⟩ := (H.out.mods hmm).at hs
      have HRG := Lib.hid hrg
      have hsm := HZ.out e (List.mem_of_getElem? hs)
      have HW := Lib.hid (notmay_any e vd wr hsm hrd (hT.mods hmm))
      rw [entV_agg] at HW
      have HTK : Hid ((L.take (k + 1)).all mayE = mayE e) := Lib.hid (by rw [List.take_add_one, hs, List.all_append, HALL.out]; simp)
      have HNO : Hid (mayE e = false → L.all mayE = false) := Lib.hid (fun hf => by
        rw [List.all_eq_false]
        exact ⟨e, List.mem_of_getElem? hs, by simp [hf]⟩)
      generalize mayE e = q at *
      clear hrg hrd hs hmm hall
      go_wp2_with (first | (refine wpList_load_mid rfl 38 _ rfl g (off + k * 5) rfl (entC e vd) _ HRG.out Tryd.underlying38 rfl info38t ?_))
      refine HW.out.mono ?_
      rintro x w2 ⟨rfl, hm⟩
      have HM2 := Lib.hid (HMM.out.trans hm (by simp))
      clear hm
      cases q
      · go_wp2_with fail
        go_ret
        exact ⟨⟨_, rfl, by rw [HNO.out trivial]; simp⟩, HM2.out⟩
      · go_wp2_with fail
        exact ⟨⟨k + 1, by omega, rfl, HTK.out, HM2.out⟩, by simp only [intOf]; omega⟩
    · obtain rfl : k = L.length := by omega
      clear hmm hall
      go_wp2_with fail
      go_ret
      refine ⟨⟨_, rfl, ?_⟩, HMM.out⟩
      have := HALL.out
      rw [List.take_length] at this
      rw [this]
      rfl
theorem containsfunc_any {w : World} (L : List EntP) {v : Value} (h : Ents w v L) (hz : ∀ e ∈ L, Small e) (hT : Tabs w) :
    Calls Tryd.prog 12 #[v, .func (.func 13) #[] #[]] w fun x w' => x = .returned (.bool (!L.all mayE)) ∧ Mods [] w w' := by
  have H := Lib.hid (indexfunc_any L h hz hT)
  obtain ⟨A, c, rfl, -⟩ := h
  generalize L.all mayE = q at *
  go_enter Tryd.func12, Tryd.ntmps12
  go_wp2_with fail
  refine H.out.mono ?_
  rintro x w1 ⟨⟨i, rfl, hq⟩, hm⟩
  have HM := Lib.hid hm
  have HQ := Lib.hid hq
  clear hm hq
  go_wp2_with fail
  go_ret
  refine ⟨?_, HM.out⟩
  rw [HQ.out]
  congr 2
  by_cases h0 : i < 0 <;> simp [h0] <;> omega
end Go.Proofs.YtmcekhgmmocajaaDoor
