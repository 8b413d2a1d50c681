/- Lists of records in memory; the walks of weights, alike, Pack, StatPieces. -/
import Derived.Test.YtnpokdbpmnkbjaaGreatDoorAw
import Derived.Deep.MidRow
import Derived.Test.YtnpokdbpmnkbjaaGreatDoorOf
import Derived.Test.YtnpokdbpmnkbjaaGreatDoorBk
import Derived.Deep.CutBlock
import Derived.Deep.CutRange
namespace Go.Proofs.YtnpokdbpmnkbjaaGreatDoor
open Go.RowKit Me

/-- A slice of records. -/
def Sts (w : World) (v : Value) (L : List StatP) : Prop :=
  ∃ A c, v = .slice A L.length c ∧ L.length ≤ c ∧ c ≤ maxLen ∧ ∀ i s, L[i]? = some s → ∃ g off, A = some ⟨g, off, none⟩ ∧ w.rangeAt g (off + i * 13) (statV s).toList
theorem range_mods {w w' : World} {F : List Nat} {g o : Nat} {cs : List Value} (h : w.rangeAt g o cs) (hm : Mods F w w') (hn : g ∉ F) : w'.rangeAt g o cs := by
  intro j v hj
  have hc := h j v hj
  rw [hm.cell (p := ⟨g, o + j, none⟩) (World.block_lt_of_cell? w _ hc) hn]
  exact hc
theorem Sts.mods {w w' : World} {v : Value} {L : List StatP} (h : Sts w v L) (hm : Mods [] w w') : Sts w' v L := by
  obtain ⟨A, c, e, h1, h2, h3⟩ := h
  refine ⟨A, c, e, h1, h2, fun i p hp => ?_⟩
  obtain ⟨g, off, e1, h4⟩ := h3 i p hp
  exact ⟨g, off, e1, range_mods h4 hm (by simp)⟩
theorem Sts.at {w : World} {A : Option Addr} {n c : Nat} {L : List StatP} (h : Sts w (.slice A n c) L) {i : Nat} {s : StatP} (hs : L[i]? = some s) : ∃ g off, A = some ⟨g, off, none⟩ ∧ w.rangeAt g (off + i * 13) (statV s).toList := by
  obtain ⟨A', c', e, _, _, h3⟩ := h
  have e0 := (Value.slice.inj e).1
  subst e0
  exact h3 i s hs
def flatT (L : List StatP) : List Value := L.flatMap fun s => (statV s).toList
theorem statV_len' (s : StatP) : (statV s).toList.length = 13 := rfl
theorem flatT_at : ∀ (L : List StatP) (i j : Nat) (x : StatP), L[i]? = some x → j < 13 → (flatT L)[i * 13 + j]? = (statV x).toList[j]?
  | [], i, j, x, h, _ => by simp at h
  | q :: L, 0, j, x, h, hj => by
    simp at h
    subst h
    show ((statV q).toList ++ flatT L)[0 * 13 + j]? = _
    rw [List.getElem?_append_left (by rw [statV_len']; omega)]
    congr 1
    omega
  | q :: L, i + 1, j, x, h, hj => by
    show ((statV q).toList ++ flatT L)[(i + 1) * 13 + j]? = _
    rw [List.getElem?_append_right (by rw [statV_len']; omega), statV_len', show (i + 1) * 13 + j - 13 = i * 13 + j by omega]
    exact flatT_at L i j x (by simpa using h) hj
theorem Sts.of_own {w : World} {base : Nat} {v : Value} {n : Nat} {L : List StatP} (h : w.ownsRow base 35 13 v n (flatT L)) (hn : n = L.length) : Sts w v L := by
  subst hn
  rcases ownsRow_form h with ⟨rfl, h1, h2⟩ | ⟨g, cap, rfl, h1, h2, _⟩
  · have hl : L = [] := List.eq_nil_of_length_eq_zero h1
    subst hl
    exact ⟨none, 0, rfl, Nat.le_refl _, by unfold maxLen; omega, fun i p hp => by simp at hp⟩
  · refine ⟨_, cap, rfl, h1, h2, fun i p hp => ⟨g, 0, rfl, fun j u hu => ?_⟩⟩
    have hj : j < 13 := by have := (List.getElem?_eq_some_iff.1 hu).1; rwa [statV_len'] at this
    have := h.cells (g := g) rfl (i * 13 + j) u (by rw [flatT_at L i j p hp hj]; exact hu)
    rw [Addr.add_lit] at this
    simpa [Nat.add_assoc] using this
theorem range_stat {w : World} {g o : Nat} {s : StatP} (h : w.rangeAt g o (statV s).toList) :
    w.cell? ⟨g, o, none⟩ = some (.int .u16 (s.typ : Int)) ∧ w.cell? ⟨g, o + 1, none⟩ = some (.int .u32 (s.dev : Int)) ∧ w.cell? ⟨g, o + 2, none⟩ = some (.int .u8 (s.qid.kind : Int)) ∧ w.cell? ⟨g, o + 3, none⟩ = some (.int .u32 (s.qid.vers : Int)) ∧
    w.cell? ⟨g, o + 4, none⟩ = some (.int .u64 (s.qid.path : Int)) ∧ w.cell? ⟨g, o + 5, none⟩ = some (.int .u32 (s.mode : Int)) ∧ w.cell? ⟨g, o + 6, none⟩ = some (.int .u32 (s.atime : Int)) ∧ w.cell? ⟨g, o + 7, none⟩ = some (.int .u32 (s.mtime : Int)) ∧
    w.cell? ⟨g, o + 8, none⟩ = some (.int .u64 (s.length : Int)) ∧ w.cell? ⟨g, o + 9, none⟩ = some (.string s.name) ∧ w.cell? ⟨g, o + 10, none⟩ = some (.string s.uid) ∧ w.cell? ⟨g, o + 11, none⟩ = some (.string s.gid) ∧ w.cell? ⟨g, o + 12, none⟩ = some (.string s.muid) :=
  ⟨h 0 _ rfl, h 1 _ rfl, h 2 _ rfl, h 3 _ rfl, h 4 _ rfl, h 5 _ rfl, h 6 _ rfl, h 7 _ rfl, h 8 _ rfl, h 9 _ rfl, h 10 _ rfl, h 11 _ rfl, h 12 _ rfl⟩
theorem info90t : (Tryz.prog.info? 35).map (·.size) = some 13 := by kernel_rfl
/-- The weight of records, as far as it is counted. -/
def RelWs (L : List StatP) (w : World) (n i : Value) (wr : World) : Prop :=
  ∃ k m : Nat, k ≤ L.length ∧ i = .int .i64 k ∧ n = .int .i64 (m : Int) ∧ m ≤ 600000268435456 ∧ k * 49 ≤ m ∧ (∀ s ∈ L.take k, s.size ≤ m) ∧ Mods [] w wr
set_option maxRecDepth 100000 in
set_option maxHeartbeats 1000000 in
theorem weights_any {w : World} (L : List StatP) {v : Value} (h : Sts w v L) (hz : ∀ s ∈ L, s.size ≤ 600000000000000) :
    Calls Tryz.prog 8 #[v] w fun e w' => ∃ m : Nat, (m ≤ 268435456 → L.length * 49 ≤ 268435456 ∧ ∀ s ∈ L, s.size ≤ 268435456) ∧ m ≤ 600000268435456 ∧ e = .returned (.int .i64 (m : Int)) ∧ Mods [] w w' := by
  have H := Lib.hid h
  have HZ := Lib.hid hz
  obtain ⟨A, c, rfl, -⟩ := h
  clear hz
  go_enter Tryz.func8, Tryz.ntmps8
  go_wp2_with fail
  go_loopw [3, 4] (fun n i wr => RelWs L w n i wr) (fun _ i _ => L.length - (intOf i).toNat)
  case atStart => exact ⟨0, 0, by omega, rfl, rfl, by omega, by omega, by simp, Mods.refl _ _⟩
  case round =>
    obtain ⟨k, m, hk, rfl, rfl, hm, hkm, hall, hmm⟩ := hrel
    have HALL := Lib.hid hall
    have HMM := Lib.hid hmm
    clear hall
    rcases Nat.lt_or_ge k L.length with hlt | hge
    · by_cases hroom : m ≤ 268435456
      · obtain ⟨s, hs⟩ : ∃ s, L[k]? = some s := ⟨_, List.getElem?_eq_getElem hlt⟩
        obtain ⟨g, off, rfl, hrg⟩ := (H.out.mods hmm).at hs
        have HRG := Lib.hid hrg
        have hsz := HZ.out s (List.mem_of_getElem? hs)
        have HW := Lib.hid (fun w' => weight_any s w' hsz)
        have h49 : 49 ≤ s.size := by unfold StatP.size; omega
        have HTK : Hid (∀ x ∈ L.take (k + 1), x.size ≤ m + s.size) := Lib.hid (fun x hx => by
          rw [List.take_add_one, hs] at hx
          rcases List.mem_append.1 hx with hx | hx
          · have := HALL.out x hx
            omega
          · simp at hx
            subst hx
            omega)
        clear hrg hs hmm
        go_wp2_with (first | (refine wpList_load_mid rfl 35 _ rfl g (off + k * 13) rfl (statV s).toList _ HRG.out Tryz.underlying35 rfl info90t ?_))
        refine (HW.out _).mono ?_; rintro e w1 ⟨rfl, hm1⟩
        have HR : Hid (RelWs L w (.int .i64 ((m : Int) + (s.size : Int))) (.int .i64 ((k : Int) + 1)) w1) := Lib.hid ⟨k + 1, m + s.size, by omega, rfl, by congr 1, by omega, by omega, HTK.out, HMM.out.trans hm1 (by simp)⟩
        clear hm1
        go_wp2_with fail
        exact ⟨HR.out, by simp only [intOf]; omega⟩
      · clear hmm
        go_wp2_with fail
        go_ret
        exact ⟨m, fun h => absurd h hroom, hm, rfl, HMM.out⟩
    · obtain rfl : k = L.length := by omega
      clear hmm
      go_wp2_with fail
      go_ret
      exact ⟨m, fun h => ⟨by omega, fun p hp => by have := HALL.out p (by rw [List.take_length]; exact hp); omega⟩, hm, rfl, HMM.out⟩
def RelAl (w : World) (L : List StatP) (i : Value) (wr : World) : Prop := ∃ k q : Nat, k ≤ L.length ∧ i = .int .i64 k ∧ w.drewN q = wr
set_option maxRecDepth 100000 in
set_option maxHeartbeats 2000000 in
theorem alike_same {w : World} (L : List StatP) {v u : Value} (h1 : Sts w v L) (h2 : Sts w u L) (hl : L.length ≤ 1000000000) :
    Calls Tryz.prog 37 #[v, u] w fun e w' => e = .returned (.bool true) ∧ Mods [] w w' := by
  have H1 := Lib.hid h1
  have H2 := Lib.hid h2
  obtain ⟨A, c, rfl, -⟩ := h1
  obtain ⟨B, d, rfl, -⟩ := h2
  go_enter Tryz.func37, Tryz.ntmps37
  go_wp2_with fail
  go_loopw [5] (fun i wr => RelAl w L i wr) (fun i _ => L.length - (intOf i).toNat)
  case atStart => exact ⟨0, 0, by omega, rfl, rfl⟩
  case round =>
    obtain ⟨k, q, hk, rfl, rfl⟩ := hrel
    rcases Nat.lt_or_ge k L.length with hlt | hge
    · obtain ⟨s, hs⟩ : ∃ s, L[k]? = some s := ⟨_, List.getElem?_eq_getElem hlt⟩
      obtain ⟨g, off, rfl, hrg⟩ := H1.out.at hs
      obtain ⟨g2, off2, rfl, hrg2⟩ := H2.out.at hs
      obtain ⟨a0, a1, a2, a3, a4, a5, a6, a7, a8, a9, a10, a11, a12⟩ := range_stat hrg
      obtain ⟨b0, b1, b2, b3, b4, b5, b6, b7, b8, b9, b10, b11, b12⟩ := range_stat hrg2
      clear hrg hrg2 hs
      go_wp2_with fail
      go_quiet (fail)
      go_wp2_with fail
      exact ⟨⟨k + 1, _, by omega, rfl, rfl⟩, by simp only [intOf]; omega⟩
    · obtain rfl : k = L.length := by omega
      go_wp2_with fail
      go_ret
      exact ⟨rfl, (Mods.refl _ _).drewN q⟩
end Go.Proofs.YtnpokdbpmnkbjaaGreatDoor
namespace Go.Proofs.YtnpokdbpmnkbjaaGreatDoor
open Go.RowKit Me

def encT (L : List StatP) : List UInt8 := L.flatMap StatP.enc
theorem encT_snoc (L : List StatP) (s : StatP) : encT (L ++ [s]) = encT L ++ s.enc := by simp [encT]
/-- So many of them go in, and no more. -/
structure PackOk (most : Int) (L : List StatP) (n : Nat) : Prop where
  le : n ≤ L.length
  err : ∀ s ∈ L.take n, s.err = 0
  room : n = 0 ∨ ((encT (L.take n)).length : Int) ≤ most
  full : ∀ s, L[n]? = some s → s.err ≠ 0 ∨ most < ((encT (L.take n)).length : Int) + (s.size : Int)
def RelPk (w : World) (most : Int) (L : List StatP) (v i : Value) (wr : World) : Prop :=
  ∃ k : Nat, k ≤ L.length ∧ i = .int .i64 k ∧ (∀ s ∈ L.take k, s.err = 0) ∧ (k = 0 ∨ ((encT (L.take k)).length : Int) ≤ most) ∧ wr.ownsRow w.heap.size 5 1 v (encT (L.take k)).length ((encT (L.take k)).map byteV) ∧ Mods [] w wr
theorem encT_take (L : List StatP) (k : Nat) : (encT (L.take k)).length ≤ (encT L).length := by
  have h : encT L = encT (L.take k) ++ encT (L.drop k) := by
    unfold encT
    rw [← List.flatMap_append, List.take_append_drop]
  rw [h, List.length_append]
  omega
set_option maxRecDepth 100000 in
set_option maxHeartbeats 2000000 in
theorem pack_any {w : World} (most : Int) (hmo : -9223372036854775808 ≤ most ∧ most ≤ 9223372036854775807) (L : List StatP) (hsum : (encT L).length ≤ 1000000000000) {v : Value} (h : Sts w v L) (hT : Lib.Utf8Tabs 0 1 w) (hf : ∀ s ∈ L, s.Fits ∧ s.size ≤ 600000000000000) :
    Calls Tryz.prog 35 #[.int .i64 most, v] w fun e w' => ∃ n : Nat, PackOk most L n ∧ ∃ vb : Value, e = .returned (.tuple #[vb, .int .i64 (n : Int)]) ∧ w'.ownsRow w.heap.size 5 1 vb (encT (L.take n)).length ((encT (L.take n)).map byteV) ∧ Mods [] w w' := by
  have H := Lib.hid h
  have HF := Lib.hid hf
  have HT := Lib.hid hT
  obtain ⟨A, c, rfl, hcap, hmax, -⟩ := h
  have hLm : L.length ≤ 9223372036854775807 := by unfold maxLen at hmax; omega
  clear hf hT hcap hmax
  obtain ⟨i0, hi, hz0, hz1, hz2⟩ := info_parts info5
  go_enter Tryz.func35, Tryz.ntmps35
  go_wp2_with fail
  go_loopw [6, 13] (fun v i wr => RelPk w most L v i wr) (fun _ i _ => L.length - (intOf i).toNat)
  case atStart => exact ⟨0, by omega, rfl, by simp, Or.inl rfl, World.ownsRow_nil _ _ _ _, Mods.refl _ _⟩
  case round =>
    obtain ⟨k, hk, rfl, herr, hroom, ho, hm⟩ := hrel
    obtain ⟨Ao, co, rfl⟩ := own_ctor ho
    have HO := Lib.hid ho
    have HM := Lib.hid hm
    have HE := Lib.hid herr
    rcases Nat.lt_or_ge k L.length with hlt | hge
    · obtain ⟨s, hs⟩ : ∃ s, L[k]? = some s := ⟨_, List.getElem?_eq_getElem hlt⟩
      obtain ⟨g, off, rfl, hrg⟩ := (H.out.mods hm).at hs
      have HRG := Lib.hid hrg
      have HS := Lib.hid hs
      obtain ⟨hsf, hsz⟩ := HF.out s (List.mem_of_getElem? hs)
      have hstore := run_store_stat wr s
      have hm2 := hm.alloc (.cells (statV s) 35)
      have HM2 := Lib.hid hm2
      have HEN := Lib.hid (encode_any (w := wr.alloc (.cells (statV s) 35)) (tabs_mods hm2 HT.out) s hsf hsz)
      have HO2 := Lib.hid (ho.alloc (.cells (statV s) 35))
      obtain ⟨c0, c1, c2, c3, c4, c5, c6, c7, c8, c9, c10, c11, c12⟩ := stat_cells (heap_alloc_new wr (.cells (statV s) 35))
      have et : encT (L.take (k + 1)) = encT (L.take k) ++ s.enc := by
        rw [List.take_add_one, hs]
        exact encT_snoc _ _
      have HET := Lib.hid et
      clear ho hm hm2 hrg hs herr et hsf
      go_wp2_with (first | (refine wpList_load_mid rfl 35 _ rfl g (off + k * 13) rfl (statV s).toList _ HRG.out Tryz.underlying35 rfl info90t ?_))
      refine HEN.out.mono ?_; rintro e w11 ⟨vc, rfl, hoc, hmc⟩
      clear c0 c1 c2 c3 c4 c5 c6 c7 c8 c9 c10 c11 c12 hstore HEN
      by_cases he : s.err = 0
      · rw [encode_good he] at hoc ⊢
        obtain ⟨-, hbl⟩ := StatP.err_zero he
        have hel := s.enc_length
        have hbl2 := s.body_length
        have hsz2 : s.enc.length < 65538 := by omega
        have HEL := Lib.hid hel
        simp only at hoc ⊢
        obtain ⟨Ac, cc, rfl⟩ := own_ctor hoc
        have HOC := Lib.hid (Rd.of_own hoc)
        have HO3 := Lib.hid (ownsRow_mods HO2.out hmc (by simp))
        have HM3 := Lib.hid (HM2.out.trans hmc (by simp))
        have HSE := Lib.hid he
        have hE0 : k = 0 → (encT (L.take k)).length = 0 := fun h => by subst h; simp [encT]
        have hE1 := Nat.le_trans (encT_take L k) hsum
        clear hoc hmc he hbl hbl2 hel hsz
        generalize hEE : encT (L.take k) = E at *
        have HEE := Lib.hid hEE
        clear hEE
        have hEl : E.length = 0 ∨ ((E.length : Int) ≤ 1000000000000 ∧ (E.length : Int) ≤ most) := by
          rcases hroom with h | h
          · exact Or.inl (hE0 h)
          · right; omega
        clear hE1
        have hwr : IntKind.i64.wrap (most - (E.length : Int)) = most - (E.length : Int) := IntWalk.i64_in _ (by omega)
        have hEn : E.length ≤ 1000000000000 := by omega
        clear hE0
        have HRM := Lib.hid hroom
        clear hroom
        by_cases hfit : ((E.length : Int) + (s.enc.length : Int)) ≤ most
        · have hnf : ¬ (most - (E.length : Int) < (s.enc.length : Int)) := by omega
          go_wp2_with (at_builtin; go_must (refine wpList_app _ rfl _ _ 37 37 rfl w.heap.size 5 i0 (.int .u8 0) 1 1 Tryz.underlying37 hi hz0 hz1 hz2 rfl _ _ _ rfl HO3.out _ s.enc.length (s.enc.map byteV) rfl ?f1 ?f2 ?f3 ?f4 ?_))
          case f1 =>
            have h := HOC.out.src Tryz.underlying37 (bytes_one _)
            rw [List.length_map] at h
            exact h
          case f2 => unfold maxLen; omega
          case f3 => omega
          case f4 => exact HM3.out.size
          intro v2 w12 hown hgrow hat
          have HR9 : Hid (RelPk w most L v2 (.int .i64 ((k : Int) + 1)) w12) := Lib.hid ⟨k + 1, by omega, rfl, fun x hx => by
              rw [List.take_add_one, HS.out] at hx
              rcases List.mem_append.1 hx with hx | hx
              · exact HE.out x hx
              · simp at hx
                subst hx
                exact HSE.out, Or.inr (by rw [HET.out, List.length_append]; omega), by rw [HET.out, List.length_append, List.map_append]; exact hown, HM3.out.grown hgrow (fun b hb => Or.inr (HO3.out.lt b hb).1)⟩
          clear hown hgrow hat
          go_wp2_with fail
          exact ⟨HR9.out, by simp only [intOf]; omega⟩
        · have hnf : (most - (E.length : Int) < (s.enc.length : Int)) := by omega
          go_wp2_with fail
          go_ret2
          refine ⟨k, ⟨hk, HE.out, by rw [HEE.out]; exact HRM.out, fun x hx => ?_⟩, _, rfl, by rw [HEE.out]; exact HO3.out, HM3.out⟩
          rw [HS.out] at hx
          cases hx
          right
          rw [HEE.out]
          have := HEL.out
          omega
      · rw [encode_bad rfl he] at hoc ⊢
        have he1 : ((s.err : Int) != 0) = true := by rw [bne_iff_ne]; omega
        have HO3 := Lib.hid (ownsRow_mods HO2.out hmc (by simp))
        have HM3 := Lib.hid (HM2.out.trans hmc (by simp))
        have HSE := Lib.hid he
        have HRM := Lib.hid hroom
        clear hoc hmc he hroom
        go_wp2_with fail
        go_ret2
        refine ⟨k, ⟨hk, HE.out, HRM.out, fun x hx => ?_⟩, _, rfl, HO3.out, HM3.out⟩
        rw [HS.out] at hx
        cases hx
        exact Or.inl HSE.out
    · obtain rfl : k = L.length := by omega
      have HRM := Lib.hid hroom
      clear ho hm hroom
      go_wp2_with fail
      go_ret2
      exact ⟨L.length, ⟨by omega, HE.out, HRM.out, fun x hx => by simp at hx⟩, _, rfl, HO.out, HM.out⟩
end Go.Proofs.YtnpokdbpmnkbjaaGreatDoor
namespace Go.Proofs.YtnpokdbpmnkbjaaGreatDoor
open Go.RowKit Me

theorem Sts.drop {w : World} {g n c j : Nat} {L : List StatP} (h : Sts w (.slice (some ⟨g, 0, none⟩) n c) L) (hj : j < L.length) (hn : n = L.length) : Sts w (.slice (some ⟨g, j * 13, none⟩) (n - j) (c - j)) (L.drop j) := by
  obtain ⟨A, c', e, h1, h2, h3⟩ := h
  obtain ⟨e1, e2, e3⟩ := Value.slice.inj e
  subst e1
  subst e3
  refine ⟨_, c - j, by rw [List.length_drop, hn], by rw [List.length_drop]; omega, by omega, fun i s hs => ?_⟩
  rw [List.getElem?_drop] at hs
  obtain ⟨g', off, e4, h4⟩ := h3 (j + i) s hs
  cases e4
  exact ⟨g, j * 13, rfl, by rw [show 0 + (j + i) * 13 = j * 13 + i * 13 by omega] at h4; exact h4⟩
end Go.Proofs.YtnpokdbpmnkbjaaGreatDoor
