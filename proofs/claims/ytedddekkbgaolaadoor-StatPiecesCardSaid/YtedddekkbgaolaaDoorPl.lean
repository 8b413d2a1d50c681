/- Lists of records in memory; the walks of weights, alike, Pack, StatPieces. -/
import Derived.Test.YtedddekkbgaolaaDoorAw
import Derived.Test.YtedddekkbgaolaaDoorEc
import Derived.Deep.MidRow
import Derived.Test.YtedddekkbgaolaaDoorOf
import Derived.Test.YtedddekkbgaolaaDoorBk
import Derived.Deep.CutBlock
import Derived.Deep.CutRange
namespace Go.Proofs.YtedddekkbgaolaaDoor
open Go.RowKit Me

/-- A slice of records. -/
def Sts (w : World) (v : Value) (L : List StatP) : Prop :=
  ∃ A c, v = .slice A L.length c ∧ L.length ≤ c ∧ c ≤ maxLen ∧ ∀ i s, L[i]? = some s → ∃ g off, A = some ⟨g, off, none⟩ ∧ w.rangeAt g (off + i * 13) (statV s).toList
theorem range_mods {w w' : World} {F : List Nat} {g o : Nat} {cs : List Value} (h : w.rangeAt g o cs) (hm : Mods F w w') (hn : g ∉ F) : w'.rangeAt g o cs := by
  intro j v hj
  have hc := h j v hj
  rw [hm.cell (p := ⟨g, o + j, none⟩) (World.block_lt_of_cell? w _ hc) hn]
  exact hc
theorem Sts.mods {w w' : World} {v : Value} {L : List StatP} (h : Sts w v L) (hm : Mods [] w w') : Sts w' v L := by
  obtain ⟨A, c, e, h1, h2, h3⟩ := h
  refine ⟨A, c, e, h1, h2, fun i p hp => ?_⟩
  obtain ⟨g, off, e1, h4⟩ := h3 i p hp
  exact ⟨g, off, e1, range_mods h4 hm (by simp)⟩
theorem Sts.at {w : World} {A : Option Addr} {n c : Nat} {L : List StatP} (h : Sts w (.slice A n c) L) {i : Nat} {s : StatP} (hs : L[i]? = some s) : ∃ g off, A = some ⟨g, off, none⟩ ∧ w.rangeAt g (off + i * 13) (statV s).toList := by
  obtain ⟨A', c', e, _, _, h3⟩ := h
  have e0 := (Value.slice.inj e).1
  subst e0
  exact h3 i s hs
def flatT (L : List StatP) : List Value := L.flatMap fun s => (statV s).toList
theorem statV_len' (s : StatP) : (statV s).toList.length = 13 := rfl
theorem flatT_snoc (L : List StatP) (s : StatP) : flatT (L ++ [s]) = flatT L ++ (statV s).toList := by simp [flatT]
theorem flatT_at : ∀ (L : List StatP) (i j : Nat) (x : StatP), L[i]? = some x → j < 13 → (flatT L)[i * 13 + j]? = (statV x).toList[j]?
  | [], i, j, x, h, _ => by simp at h
  | q :: L, 0, j, x, h, hj => by
    simp at h
    subst h
    show ((statV q).toList ++ flatT L)[0 * 13 + j]? = _
    rw [List.getElem?_append_left (by rw [statV_len']; omega)]
    congr 1
    omega
  | q :: L, i + 1, j, x, h, hj => by
    show ((statV q).toList ++ flatT L)[(i + 1) * 13 + j]? = _
    rw [List.getElem?_append_right (by rw [statV_len']; omega), statV_len', show (i + 1) * 13 + j - 13 = i * 13 + j by omega]
    exact flatT_at L i j x (by simpa using h) hj
theorem Sts.of_own {w : World} {base : Nat} {v : Value} {n : Nat} {L : List StatP} (h : w.ownsRow base 90 13 v n (flatT L)) (hn : n = L.length) : Sts w v L := by
  subst hn
  rcases ownsRow_form h with ⟨rfl, h1, h2⟩ | ⟨g, cap, rfl, h1, h2, _⟩
  · have hl : L = [] := List.eq_nil_of_length_eq_zero h1
    subst hl
    exact ⟨none, 0, rfl, Nat.le_refl _, by unfold maxLen; omega, fun i p hp => by simp at hp⟩
  · refine ⟨_, cap, rfl, h1, h2, fun i p hp => ⟨g, 0, rfl, fun j u hu => ?_⟩⟩
    have hj : j < 13 := by have := (List.getElem?_eq_some_iff.1 hu).1; rwa [statV_len'] at this
    have := h.cells (g := g) rfl (i * 13 + j) u (by rw [flatT_at L i j p hp hj]; exact hu)
    rw [Addr.add_lit] at this
    simpa [Nat.add_assoc] using this
theorem range_stat {w : World} {g o : Nat} {s : StatP} (h : w.rangeAt g o (statV s).toList) :
    w.cell? ⟨g, o, none⟩ = some (.int .u16 (s.typ : Int)) ∧ w.cell? ⟨g, o + 1, none⟩ = some (.int .u32 (s.dev : Int)) ∧ w.cell? ⟨g, o + 2, none⟩ = some (.int .u8 (s.qid.kind : Int)) ∧ w.cell? ⟨g, o + 3, none⟩ = some (.int .u32 (s.qid.vers : Int)) ∧
    w.cell? ⟨g, o + 4, none⟩ = some (.int .u64 (s.qid.path : Int)) ∧ w.cell? ⟨g, o + 5, none⟩ = some (.int .u32 (s.mode : Int)) ∧ w.cell? ⟨g, o + 6, none⟩ = some (.int .u32 (s.atime : Int)) ∧ w.cell? ⟨g, o + 7, none⟩ = some (.int .u32 (s.mtime : Int)) ∧
    w.cell? ⟨g, o + 8, none⟩ = some (.int .u64 (s.length : Int)) ∧ w.cell? ⟨g, o + 9, none⟩ = some (.string s.name) ∧ w.cell? ⟨g, o + 10, none⟩ = some (.string s.uid) ∧ w.cell? ⟨g, o + 11, none⟩ = some (.string s.gid) ∧ w.cell? ⟨g, o + 12, none⟩ = some (.string s.muid) :=
  ⟨h 0 _ rfl, h 1 _ rfl, h 2 _ rfl, h 3 _ rfl, h 4 _ rfl, h 5 _ rfl, h 6 _ rfl, h 7 _ rfl, h 8 _ rfl, h 9 _ rfl, h 10 _ rfl, h 11 _ rfl, h 12 _ rfl⟩
theorem info90t : (Tryd.prog.info? 90).map (·.size) = some 13 := by kernel_rfl
/-- The weight of records, as far as it is counted. -/
def RelWs (L : List StatP) (w : World) (n i : Value) (wr : World) : Prop :=
  ∃ k m : Nat, k ≤ L.length ∧ i = .int .i64 k ∧ n = .int .i64 (m : Int) ∧ m ≤ 600000268435456 ∧ k * 49 ≤ m ∧ (∀ s ∈ L.take k, s.size ≤ m) ∧ Mods [] w wr
set_option maxRecDepth 100000 in
set_option maxHeartbeats 1000000 in
theorem weights_any {w : World} (L : List StatP) {v : Value} (h : Sts w v L) (hz : ∀ s ∈ L, s.size ≤ 600000000000000) :
    Calls Tryd.prog 60 #[v] w fun e w' => ∃ m : Nat, (m ≤ 268435456 → L.length * 49 ≤ 268435456 ∧ ∀ s ∈ L, s.size ≤ 268435456) ∧ m ≤ 600000268435456 ∧ e = .returned (.int .i64 (m : Int)) ∧ Mods [] w w' := by
  have H := Lib.hid h
  have HZ := Lib.hid hz
  obtain ⟨A, c, rfl, -⟩ := h
  clear hz
  go_enter Tryd.func60, Tryd.ntmps60
  go_wp2_with fail
  go_loopw [3, 4] (fun n i wr => RelWs L w n i wr) (fun _ i _ => L.length - (intOf i).toNat)
  case atStart => exact ⟨0, 0, by omega, rfl, rfl, by omega, by omega, by simp, Mods.refl _ _⟩
  case round =>
    obtain ⟨k, m, hk, rfl, rfl, hm, hkm, hall, hmm⟩ := hrel
    have HALL := Lib.hid hall
    have HMM := Lib.hid hmm
    clear hall
    rcases Nat.lt_or_ge k L.length with hlt | hge
    · by_cases hroom : m ≤ 268435456
      · obtain ⟨s, hs⟩ : ∃ s, L[k]? = some s := ⟨_, List.getElem?_eq_getElem hlt⟩
        obtain ⟨g, off, rfl, hrg⟩ := (H.out.mods hmm).at hs
        have HRG := Lib.hid hrg
        have hsz := HZ.out s (List.mem_of_getElem? hs)
        have HW := Lib.hid (fun w' => weight_any s w' hsz)
        have h49 : 49 ≤ s.size := by unfold StatP.size; omega
        have HTK : Hid (∀ x ∈ L.take (k + 1), x.size ≤ m + s.size) := Lib.hid (fun x hx => by
          rw [List.take_add_one, hs] at hx
          rcases List.mem_append.1 hx with hx | hx
          · have := HALL.out x hx
            omega
          · simp at hx
            subst hx
            omega)
        clear hrg hs hmm
        go_wp2_with (first | (refine wpList_load_mid rfl 90 _ rfl g (off + k * 13) rfl (statV s).toList _ HRG.out Tryd.underlying90 rfl info90t ?_))
        refine (HW.out _).mono ?_; rintro e w1 ⟨rfl, hm1⟩
        have HR : Hid (RelWs L w (.int .i64 ((m : Int) + (s.size : Int))) (.int .i64 ((k : Int) + 1)) w1) := Lib.hid ⟨k + 1, m + s.size, by omega, rfl, by congr 1, by omega, by omega, HTK.out, HMM.out.trans hm1 (by simp)⟩
        clear hm1
        go_wp2_with fail
        exact ⟨HR.out, by simp only [intOf]; omega⟩
      · clear hmm
        go_wp2_with fail
        go_ret
        exact ⟨m, fun h => absurd h hroom, hm, rfl, HMM.out⟩
    · obtain rfl : k = L.length := by omega
      clear hmm
      go_wp2_with fail
      go_ret
      exact ⟨m, fun h => ⟨by omega, fun p hp => by have := HALL.out p (by rw [List.take_length]; exact hp); omega⟩, hm, rfl, HMM.out⟩
def RelAl (w : World) (L : List StatP) (i : Value) (wr : World) : Prop := ∃ k q : Nat, k ≤ L.length ∧ i = .int .i64 k ∧ w.drewN q = wr
set_option maxRecDepth 100000 in
set_option maxHeartbeats 2000000 in
theorem alike_same {w : World} (L : List StatP) {v u : Value} (h1 : Sts w v L) (h2 : Sts w u L) (hl : L.length ≤ 1000000000) :
    Calls Tryd.prog 64 #[v, u] w fun e w' => e = .returned (.bool true) ∧ Mods [] w w' := by
  have H1 := Lib.hid h1
  have H2 := Lib.hid h2
  obtain ⟨A, c, rfl, -⟩ := h1
  obtain ⟨B, d, rfl, -⟩ := h2
  go_enter Tryd.func64, Tryd.ntmps64
  go_wp2_with fail
  go_loopw [5] (fun i wr => RelAl w L i wr) (fun i _ => L.length - (intOf i).toNat)
  case atStart => exact ⟨0, 0, by omega, rfl, rfl⟩
  case round =>
    obtain ⟨k, q, hk, rfl, rfl⟩ := hrel
    rcases Nat.lt_or_ge k L.length with hlt | hge
    · obtain ⟨s, hs⟩ : ∃ s, L[k]? = some s := ⟨_, List.getElem?_eq_getElem hlt⟩
      obtain ⟨g, off, rfl, hrg⟩ := H1.out.at hs
      obtain ⟨g2, off2, rfl, hrg2⟩ := H2.out.at hs
      obtain ⟨a0, a1, a2, a3, a4, a5, a6, a7, a8, a9, a10, a11, a12⟩ := range_stat hrg
      obtain ⟨b0, b1, b2, b3, b4, b5, b6, b7, b8, b9, b10, b11, b12⟩ := range_stat hrg2
      clear hrg hrg2 hs
      go_wp2_with fail
      go_quiet (fail)
      go_wp2_with fail
      exact ⟨⟨k + 1, _, by omega, rfl, rfl⟩, by simp only [intOf]; omega⟩
    · obtain rfl : k = L.length := by omega
      go_wp2_with fail
      go_ret
      exact ⟨rfl, (Mods.refl _ _).drewN q⟩
end Go.Proofs.YtedddekkbgaolaaDoor
namespace Go.Proofs.YtedddekkbgaolaaDoor
open Go.RowKit Me

def encT (L : List StatP) : List UInt8 := L.flatMap StatP.enc
theorem encT_snoc (L : List StatP) (s : StatP) : encT (L ++ [s]) = encT L ++ s.enc := by simp [encT]
/-- So many of them go in, and no more. -/
structure PackOk (most : Int) (L : List StatP) (n : Nat) : Prop where
  le : n ≤ L.length
  err : ∀ s ∈ L.take n, s.err = 0
  room : n = 0 ∨ ((encT (L.take n)).length : Int) ≤ most
  full : ∀ s, L[n]? = some s → s.err ≠ 0 ∨ most < ((encT (L.take n)).length : Int) + (s.size : Int)
def RelPk (w : World) (most : Int) (L : List StatP) (v i : Value) (wr : World) : Prop :=
  ∃ k : Nat, k ≤ L.length ∧ i = .int .i64 k ∧ (∀ s ∈ L.take k, s.err = 0) ∧ (k = 0 ∨ ((encT (L.take k)).length : Int) ≤ most) ∧ wr.ownsRow w.heap.size 5 1 v (encT (L.take k)).length ((encT (L.take k)).map byteV) ∧ Mods [] w wr
set_option maxRecDepth 100000 in
set_option maxHeartbeats 2000000 in
theorem pack_any {w : World} (most : Int) (hmo : -9223372036854775808 ≤ most ∧ most ≤ 1000000000000) (L : List StatP) {v : Value} (h : Sts w v L) (hT : Lib.Utf8Tabs 0 1 w) (hf : ∀ s ∈ L, s.Fits ∧ s.size ≤ 600000000000000) :
    Calls Tryd.prog 63 #[.int .i64 most, v] w fun e w' => ∃ n : Nat, PackOk most L n ∧ ∃ vb : Value, e = .returned (.tuple #[vb, .int .i64 (n : Int)]) ∧ w'.ownsRow w.heap.size 5 1 vb (encT (L.take n)).length ((encT (L.take n)).map byteV) ∧ Mods [] w w' := by
  have H := Lib.hid h
  have HF := Lib.hid hf
  have HT := Lib.hid hT
  obtain ⟨A, c, rfl, hcap, hmax, -⟩ := h
  have hLm : L.length ≤ 9223372036854775807 := by unfold maxLen at hmax; omega
  clear hf hT hcap hmax
  obtain ⟨i0, hi, hz0, hz1, hz2⟩ := info_parts info5
  go_enter Tryd.func63, Tryd.ntmps63
  go_wp2_with fail
  go_loopw [6, 13] (fun v i wr => RelPk w most L v i wr) (fun _ i _ => L.length - (intOf i).toNat)
  case atStart => exact ⟨0, by omega, rfl, by simp, Or.inl rfl, World.ownsRow_nil _ _ _ _, Mods.refl _ _⟩
  case round =>
    obtain ⟨k, hk, rfl, herr, hroom, ho, hm⟩ := hrel
    obtain ⟨Ao, co, rfl⟩ := own_ctor ho
    have HO := Lib.hid ho
    have HM := Lib.hid hm
    have HE := Lib.hid herr
    rcases Nat.lt_or_ge k L.length with hlt | hge
    · obtain ⟨s, hs⟩ : ∃ s, L[k]? = some s := ⟨_, List.getElem?_eq_getElem hlt⟩
      obtain ⟨g, off, rfl, hrg⟩ := (H.out.mods hm).at hs
      have HRG := Lib.hid hrg
      have HS := Lib.hid hs
      obtain ⟨hsf, hsz⟩ := HF.out s (List.mem_of_getElem? hs)
      have hstore := run_store_stat wr s
      have hm2 := hm.alloc (.cells (statV s) 90)
      have HM2 := Lib.hid hm2
      have HEN := Lib.hid (encode_any (w := wr.alloc (.cells (statV s) 90)) (tabs_mods hm2 HT.out) s hsf hsz)
      have HO2 := Lib.hid (ho.alloc (.cells (statV s) 90))
      obtain ⟨c0, c1, c2, c3, c4, c5, c6, c7, c8, c9, c10, c11, c12⟩ := stat_cells (heap_alloc_new wr (.cells (statV s) 90))
      have et : encT (L.take (k + 1)) = encT (L.take k) ++ s.enc := by
        rw [List.take_add_one, hs]
        exact encT_snoc _ _
      have HET := Lib.hid et
      clear ho hm hm2 hrg hs herr et hsf
      go_wp2_with (first | (refine wpList_load_mid rfl 90 _ rfl g (off + k * 13) rfl (statV s).toList _ HRG.out Tryd.underlying90 rfl info90t ?_))
      refine HEN.out.mono ?_; rintro e w11 ⟨vc, rfl, hoc, hmc⟩
      clear c0 c1 c2 c3 c4 c5 c6 c7 c8 c9 c10 c11 c12 hstore HEN
      by_cases he : s.err = 0
      · rw [encode_good he] at hoc ⊢
        obtain ⟨-, hbl⟩ := StatP.err_zero he
        have hel := s.enc_length
        have hbl2 := s.body_length
        have hsz2 : s.enc.length < 65538 := by omega
        have HEL := Lib.hid hel
        simp only at hoc ⊢
        obtain ⟨Ac, cc, rfl⟩ := own_ctor hoc
        have HOC := Lib.hid (Rd.of_own hoc)
        have HO3 := Lib.hid (ownsRow_mods HO2.out hmc (by simp))
        have HM3 := Lib.hid (HM2.out.trans hmc (by simp))
        have HSE := Lib.hid he
        have hE0 : k = 0 → (encT (L.take k)).length = 0 := fun h => by subst h; simp [encT]
        clear hoc hmc he hbl hbl2 hel hsz
        generalize hEE : encT (L.take k) = E at *
        have HEE := Lib.hid hEE
        clear hEE
        have hEl : E.length = 0 ∨ ((E.length : Int) ≤ 1000000000000 ∧ (E.length : Int) ≤ most) := by
          rcases hroom with h | h
          · exact Or.inl (hE0 h)
          · right; omega
        have hwr : IntKind.i64.wrap (most - (E.length : Int)) = most - (E.length : Int) := IntWalk.i64_in _ (by omega)
        have hEn : E.length ≤ 1000000000000 := by omega
        clear hE0
        have HRM := Lib.hid hroom
        clear hroom
        by_cases hfit : ((E.length : Int) + (s.enc.length : Int)) ≤ most
        · have hnf : ¬ (most - (E.length : Int) < (s.enc.length : Int)) := by omega
          go_wp2_with (at_builtin; go_must (refine wpList_app _ rfl _ _ 43 43 rfl w.heap.size 5 i0 (.int .u8 0) 1 1 Tryd.underlying43 hi hz0 hz1 hz2 rfl _ _ _ rfl HO3.out _ s.enc.length (s.enc.map byteV) rfl ?f1 ?f2 ?f3 ?f4 ?_))
          case f1 =>
            have h := HOC.out.src Tryd.underlying43 (bytes_one _)
            rw [List.length_map] at h
            exact h
          case f2 => unfold maxLen; omega
          case f3 => omega
          case f4 => exact HM3.out.size
          intro v2 w12 hown hgrow hat
          have HR9 : Hid (RelPk w most L v2 (.int .i64 ((k : Int) + 1)) w12) := Lib.hid ⟨k + 1, by omega, rfl, fun x hx => by
              rw [List.take_add_one, HS.out] at hx
              rcases List.mem_append.1 hx with hx | hx
              · exact HE.out x hx
              · simp at hx
                subst hx
                exact HSE.out, Or.inr (by rw [HET.out, List.length_append]; omega), by rw [HET.out, List.length_append, List.map_append]; exact hown, HM3.out.grown hgrow (fun b hb => Or.inr (HO3.out.lt b hb).1)⟩
          clear hown hgrow hat
          go_wp2_with fail
          exact ⟨HR9.out, by simp only [intOf]; omega⟩
        · have hnf : (most - (E.length : Int) < (s.enc.length : Int)) := by omega
          go_wp2_with fail
          go_ret2
          refine ⟨k, ⟨hk, HE.out, by rw [HEE.out]; exact HRM.out, fun x hx => ?_⟩, _, rfl, by rw [HEE.out]; exact HO3.out, HM3.out⟩
          rw [HS.out] at hx
          cases hx
          right
          rw [HEE.out]
          have := HEL.out
          omega
      · rw [encode_bad rfl he] at hoc ⊢
        have he1 : ((s.err : Int) != 0) = true := by rw [bne_iff_ne]; omega
        have HO3 := Lib.hid (ownsRow_mods HO2.out hmc (by simp))
        have HM3 := Lib.hid (HM2.out.trans hmc (by simp))
        have HSE := Lib.hid he
        have HRM := Lib.hid hroom
        clear hoc hmc he hroom
        go_wp2_with fail
        go_ret2
        refine ⟨k, ⟨hk, HE.out, HRM.out, fun x hx => ?_⟩, _, rfl, HO3.out, HM3.out⟩
        rw [HS.out] at hx
        cases hx
        exact Or.inl HSE.out
    · obtain rfl : k = L.length := by omega
      have HRM := Lib.hid hroom
      clear ho hm hroom
      go_wp2_with fail
      go_ret2
      exact ⟨L.length, ⟨by omega, HE.out, HRM.out, fun x hx => by simp at hx⟩, _, rfl, HO.out, HM.out⟩
end Go.Proofs.YtedddekkbgaolaaDoor
namespace Go.Proofs.YtedddekkbgaolaaDoor
open Go.RowKit Me

theorem recs_of : ∀ (L : List StatP) (S : RSt), S.On (encT L) → (∀ s ∈ L, s.Fits ∧ s.err = 0) → (recs S).map Prod.snd = L
  | [], S, h, _ => by
    have hl : S.left = 0 := by
      unfold RSt.left
      rw [if_neg (by have := h.err; omega)]
      have := congrArg List.length h.rest
      simp [RSt.rest, encT] at this
      omega
    rw [recs_stop hl]
    rfl
  | s :: L, S, h, hf => by
    obtain ⟨h1, h2⟩ := hf s (by simp)
    have ho : S.On (s.enc ++ encT L) := h
    obtain ⟨e, hn⟩ := RSt.stat_on ho h1 h2
    have h0 : S.left ≠ 0 := by
      unfold RSt.left
      rw [if_neg (by have := h.err; omega)]
      have := congrArg List.length ho.rest
      have hl := s.enc_length
      have hz : 49 ≤ s.size := by unfold StatP.size; omega
      simp only [RSt.rest, List.length_drop, List.length_append] at this
      omega
    have he : S.stat.2.err = 0 := by rw [e]; exact hn.err
    rw [recs_next h0 he, e]
    simp only [List.map_cons]
    rw [recs_of L _ hn (fun x hx => hf x (List.mem_cons_of_mem _ hx))]
theorem records_of {L : List StatP} (hf : ∀ s ∈ L, s.Fits ∧ s.err = 0) : ∃ M, records (encT L) = (M, 0) ∧ M.map Prod.snd = L := by
  have hm := recs_of L (RSt.new (encT L)) ⟨rfl, rfl⟩ hf
  refine ⟨recs (RSt.new (encT L)), ?_, hm⟩
  unfold records
  rw [if_pos]
  obtain ⟨r, h1, h2⟩ := recsF_all ((RSt.new (encT L)).bytes.length + 1) (RSt.new (encT L))
  have h3 : encT L = encL (recs (RSt.new (encT L))) ++ r := h1
  have h4 : encL (recs (RSt.new (encT L))) = encT L := by
    have : ∀ M : List (Nat × StatP), encL M = encT (M.map Prod.snd) := by
      intro M
      induction M with
      | nil => rfl
      | cons x M ih => exact congrArg (x.2.enc ++ ·) ih
    rw [this, hm]
  have hr : r = [] := by
    rw [h4] at h3
    have := congrArg List.length h3
    simp at this
    exact this
  by_cases hn : recs (RSt.new (encT L)) = []
  · rw [hn] at hm ⊢
    simp at hm
    subst hm
    rfl
  · have h5 : endOf (recs (RSt.new (encT L))) + r.length = 0 + (encT L).length := h2 hn
    rw [hr] at h5
    simpa using h5
theorem flatS_T (M : List (Nat × StatP)) : flatS M = flatT (M.map Prod.snd) := by
  induction M with
  | nil => rfl
  | cons x M ih =>
    show (statV x.2).toList ++ flatS M = (statV x.2).toList ++ flatT (M.map Prod.snd)
    rw [ih]
theorem flatT_len (L : List StatP) : (flatT L).length = L.length * 13 := by
  induction L with
  | nil => rfl
  | cons x L ih =>
    show ((statV x).toList ++ flatT L).length = _
    rw [List.length_append, ih, List.length_cons, statV_len']
    omega
theorem flatT_one (L : List StatP) : ∀ v ∈ flatT L, v.oneCell' = true := by
  intro v hv
  obtain ⟨s, _, hv⟩ := List.mem_flatMap.1 hv
  exact statV_one s v hv
/-- The first goes in, if there is room for it. -/
theorem PackOk.pos {most : Int} {s : StatP} {L : List StatP} {n : Nat} (h : PackOk most (s :: L) n) (he : s.err = 0) (hs : (s.size : Int) ≤ most) : 1 ≤ n := by
  rcases Nat.eq_zero_or_pos n with rfl | h0
  · rcases h.full s rfl with h1 | h1
    · exact absurd he h1
    · simp [encT] at h1
      omega
  · exact h0
def intZ (z : Int) : Value := .int .i64 z
def lenS : Value → Nat
  | .slice _ n _ => n
  | _ => 0
def RelP2 (w : World) (fit : List StatP) (all r : Value) (wr : World) : Prop :=
  ∃ j k : Nat, j ≤ fit.length ∧ k ≤ j ∧ r = .int .i64 (k : Int) ∧ wr.ownsRow w.heap.size 90 13 all j (flatT (fit.take j)) ∧ Mods [] w wr
theorem u16_range (z : Int) : 0 ≤ IntKind.u16.wrap z ∧ IntKind.u16.wrap z < 65536 := by
  have h : IntKind.u16.wrap z = z % 65536 := by simp [IntKind.wrap, IntKind.bits, IntKind.signed]
  omega
theorem Sts.drop {w : World} {g n c j : Nat} {L : List StatP} (h : Sts w (.slice (some ⟨g, 0, none⟩) n c) L) (hj : j < L.length) (hn : n = L.length) : Sts w (.slice (some ⟨g, j * 13, none⟩) (n - j) (c - j)) (L.drop j) := by
  obtain ⟨A, c', e, h1, h2, h3⟩ := h
  obtain ⟨e1, e2, e3⟩ := Value.slice.inj e
  subst e1
  subst e3
  refine ⟨_, c - j, by rw [List.length_drop, hn], by rw [List.length_drop]; omega, by omega, fun i s hs => ?_⟩
  rw [List.getElem?_drop] at hs
  obtain ⟨g', off, e4, h4⟩ := h3 (j + i) s hs
  cases e4
  exact ⟨g, j * 13, rfl, by rw [show 0 + (j + i) * 13 = j * 13 + i * 13 by omega] at h4; exact h4⟩
def RelP1 (w : World) (L : List StatP) (v most i : Value) (wr : World) : Prop :=
  ∃ (k m : Nat) (fit : List StatP), k ≤ L.length ∧ k ≤ 1000 ∧ i = .int .i64 k ∧ most = .int .i64 (m : Int) ∧ m ≤ 268435456 ∧ fit.length ≤ k ∧ (∀ s ∈ fit, s.Fits ∧ s.err = 0 ∧ s.size ≤ m) ∧ wr.ownsRow w.heap.size 90 13 v fit.length (flatT fit) ∧ Mods [] w wr
set_option maxRecDepth 100000 in
set_option maxHeartbeats 2000000 in
theorem pieces_any {w : World} (hT : Lib.Utf8Tabs 0 1 w) (L : List StatP) {v0 : Value} (h0 : Sts w v0 L) (hf : ∀ s ∈ L, s.Fits ∧ s.size ≤ 600000000000000) (ns : List Int) {v1 : Value} (h1 : Rd w v1 (ns.map intZ)) (hz : ∀ z ∈ ns, -9223372036854775808 ≤ z ∧ z ≤ 9223372036854775807) :
    Calls Tryd.prog 14 #[v0, v1] w fun e w' => e = .returned (.bool true) ∧ Mods [] w w' := by
  have HT := Lib.hid hT
  have H0 := Lib.hid h0
  have HF := Lib.hid hf
  have HZ := Lib.hid hz
  have HN : Hid (Rd w v1 (ns.map intZ)) := Lib.hid h1
  obtain ⟨A0, c0, rfl, hcap, hmax, -⟩ := h0
  obtain ⟨A1, c1, rfl, hcap1, hmax1, -⟩ := h1
  rw [List.length_map] at HN hcap1 ⊢
  have hLm : L.length ≤ 9223372036854775807 := by unfold maxLen at hmax; omega
  have hnm : ns.length ≤ 140737488355328 ∨ True := Or.inr trivial
  unfold maxLen at hmax1
  clear hT hf hz hcap hmax hnm
  go_enter Tryd.func14, Tryd.ntmps14
  go_wp2_with fail
  refine (awake_any w HT.out).mono ?_; rintro e w1 ⟨rfl, hm1⟩
  have M1 := Lib.hid hm1
  have HWS := Lib.hid (weights_any L (H0.out.mods hm1) (fun s hs => (HF.out s hs).2))
  clear hm1
  go_wp2_with fail
  refine HWS.out.mono ?_; rintro e w2 ⟨m0, hm0, hmb, rfl, hm2⟩
  have M2 := Lib.hid (M1.out.trans hm2 (by simp))
  clear hm2 HWS M1
  by_cases hbig : 268435456 < m0
  · clear hm0
    go_wp2_with fail
    go_ret
    exact ⟨rfl, M2.out⟩
  obtain ⟨hcnt, hsm⟩ := hm0 (by omega)
  have HSM := Lib.hid hsm
  clear hm0 hsm
  obtain ⟨i0, hi, hz0, hz1, hz2⟩ := info_parts info90'
  go_upto_block 0 with fail
  go_cut [6, 7, 8, 9] from 18 (fun v6 v7 _ _ w' => ∃ (m : Nat) (fit : List StatP), v7 = .int .i64 (m : Int) ∧ m ≤ 268435456 ∧ fit.length ≤ 1000 ∧ (∀ s ∈ fit, s.Fits ∧ s.err = 0 ∧ s.size ≤ m) ∧ w'.ownsRow w2.heap.size 90 13 v6 fit.length (flatT fit) ∧ Mods [] w2 w')
  case first =>
    go_wp2_with fail
    go_loopw [6, 7, 8] (fun v most i wr => RelP1 w2 L v most i wr) (fun _ _ i _ => L.length - (intOf i).toNat)
    case atStart => exact ⟨0, 0, [], by omega, by omega, rfl, rfl, by omega, by simp, by simp, World.ownsRow_nil _ _ _ _, Mods.refl _ _⟩
    case round =>
      obtain ⟨k, m, fit, hk, hk2, rfl, rfl, hmm, hfl, hfit, ho, hm⟩ := hrel
      obtain ⟨Af, cf, rfl⟩ := own_ctor ho
      have HO := Lib.hid ho
      have HM := Lib.hid hm
      have HFT := Lib.hid hfit
      clear hfit
      by_cases hgo : k < L.length ∧ k < 1000
      · obtain ⟨hlt, hlt2⟩ := hgo
        obtain ⟨s, hs⟩ : ∃ s, L[k]? = some s := ⟨_, List.getElem?_eq_getElem hlt⟩
        have hmem := List.mem_of_getElem? hs
        obtain ⟨g, off, rfl, hrg⟩ := (H0.out.mods M2.out).at hs
        have HRG := Lib.hid (fun (w' : World) (h : Mods [] w2 w') => range_mods hrg h (by simp))
        obtain ⟨hsf, hsz⟩ := HF.out s hmem
        have hs28 := HSM.out s hmem
        have HWR := Lib.hid (writes_any (w := wr) s hsf hs28 _ rfl)
        have HSF := Lib.hid hsf
        have HSZ := Lib.hid (fun w' => rsize_any s w' hsz)
        clear ho hm hrg hs hmem hsf hsz
        by_cases he : s.err = 0
        · have hb : decide (s.err = 0) = true := by simpa using he
          rw [hb] at HWR
          have HE := Lib.hid he
          clear hb he
          go_wp2_with (first | (refine wpList_load_mid rfl 90 _ rfl g (off + k * 13) rfl (statV s).toList _ (HRG.out _ HM.out) Tryd.underlying90 rfl info90t ?_))
          refine HWR.out.mono ?_; rintro e w5 ⟨rfl, hm5⟩
          have HO5 := Lib.hid (ownsRow_mods HO.out hm5 (by simp))
          have HM5 := Lib.hid (HM.out.trans hm5 (by simp))
          have HRG5 := Lib.hid (HRG.out _ HM5.out)
          clear hm5
          obtain ⟨c0, c1, c2, c3, c4, c5, c6, c7, c8, c9, c10, c11, c12⟩ := range_stat HRG5.out
          go_wp2_with (at_builtin; go_must (refine wpList_app _ rfl _ _ 96 96 rfl w2.heap.size 90 i0 (.agg zeroV) 13 112 Tryd.underlying96 hi hz0 hz1 hz2 rfl _ _ _ rfl (HO5.out.alloc _) _ 1 (statV s).toList rfl ?f1 ?f2 ?f3 ?f4 ?_))
          case f1 => exact Src.ofSlice _ Tryd.underlying96 _ _ _ _ rfl (cells_new w5 (statV s).toList 90) (statV_one s)
          case f2 => unfold maxLen; omega
          case f3 => omega
          case f4 => exact (HM5.out.alloc _).size
          intro v2 w6 hown hgrow hat
          obtain ⟨A2, cc2, rfl⟩ := own_ctor hown
          have HM6 := Lib.hid ((HM5.out.alloc _).grown hgrow (fun b hb => Or.inr (HO5.out.lt b hb).1))
          have HO6 : Hid (w6.ownsRow w2.heap.size 90 13 _ (fit.length + 1) (flatT (fit ++ [s]))) := Lib.hid (by rw [flatT_snoc]; exact hown)
          have HRG6 := Lib.hid (HRG.out _ HM6.out)
          clear hown hgrow hat c0 c1 c2 c3 c4 c5 c6 c7 c8 c9 c10 c11 c12
          go_wp2_with (first | (refine wpList_load_mid rfl 90 _ rfl g (off + k * 13) rfl (statV s).toList _ HRG6.out Tryd.underlying90 rfl info90t ?_))
          refine (HSZ.out _).mono ?_; rintro e w7 ⟨rfl, hm7⟩
          have HR9 : Hid (RelP1 w2 L (.slice A2 (fit.length + 1) cc2) (.int .i64 ((max m s.size : Nat) : Int)) (.int .i64 ((k : Int) + 1)) w7) := Lib.hid ⟨k + 1, max m s.size, fit ++ [s], by omega, by omega, by congr 1, rfl, by omega, by simp; omega, fun x hx => by
              rcases List.mem_append.1 hx with hx | hx
              · obtain ⟨h1, h2, h3⟩ := HFT.out x hx
                exact ⟨h1, h2, by omega⟩
              · simp at hx
                subst hx
                exact ⟨HSF.out, HE.out, by omega⟩, by rw [List.length_append]; exact ownsRow_mods HO6.out hm7 (by simp), HM6.out.trans hm7 (by simp)⟩
          clear hm7
          go_wp2_with fail
          rw [show max (m : Int) (s.size : Int) = ((max m s.size : Nat) : Int) by omega]
          exact ⟨HR9.out, by simp only [intOf]; omega⟩
        · have hb : decide (s.err = 0) = false := by simpa using he
          rw [hb] at HWR
          clear hb he
          go_wp2_with (first | (refine wpList_load_mid rfl 90 _ rfl g (off + k * 13) rfl (statV s).toList _ (HRG.out _ HM.out) Tryd.underlying90 rfl info90t ?_))
          refine HWR.out.mono ?_; rintro e w5 ⟨rfl, hm5⟩
          have HR9 : Hid (RelP1 w2 L (.slice Af fit.length cf) (.int .i64 (m : Int)) (.int .i64 ((k : Int) + 1)) w5) := Lib.hid ⟨k + 1, m, fit, by omega, by omega, by congr 1, rfl, by omega, by omega, HFT.out, ownsRow_mods HO.out hm5 (by simp), HM.out.trans hm5 (by simp)⟩
          clear hm5
          go_wp2_with fail
          exact ⟨HR9.out, by simp only [intOf]; omega⟩
      · have HX : Hid (∃ (m' : Nat) (fit' : List StatP), Value.int .i64 (m : Int) = .int .i64 (m' : Int) ∧ m' ≤ 268435456 ∧ fit'.length ≤ 1000 ∧ (∀ s ∈ fit', s.Fits ∧ s.err = 0 ∧ s.size ≤ m') ∧ wr.ownsRow w2.heap.size 90 13 (.slice Af fit.length cf) fit'.length (flatT fit') ∧ Mods [] w2 wr) := Lib.hid ⟨m, fit, rfl, hmm, by omega, HFT.out, HO.out, HM.out⟩
        clear ho hm
        by_cases h : k < L.length
        · have h2 : 1000 ≤ k := by omega
          go_wp2_with fail
          go_meet
          case rel => exact HX.out
        · go_wp2_with fail
          go_meet
          case rel => exact HX.out
  case rest =>
    obtain ⟨m, fit, rfl, hmm, hfl, hfit, ho, hm⟩ := hcut
    have HM := Lib.hid hm
    have HO := Lib.hid ho
    have HFT := Lib.hid hfit
    obtain ⟨Af, cf, rfl⟩ := own_ctor ho
    clear ho hm hfit
    go_wp2_with fail
    refine (sample_any _).mono ?_; rintro e w3 ⟨rfl, hm3⟩
    have HO3 := Lib.hid (ownsRow_mods HO.out hm3 (by simp))
    have HM3 := Lib.hid (HM.out.trans hm3 (by simp))
    clear hm3
    go_wp2_with (at_builtin; go_must (refine wpList_app _ rfl _ _ 96 96 rfl w2.heap.size 90 i0 (.agg zeroV) 13 112 Tryd.underlying96 hi hz0 hz1 hz2 rfl _ _ _ rfl (HO3.out.alloc _) _ 1 (statV sampleS).toList rfl ?g1 ?g2 ?g3 ?g4 ?_))
    case g1 => exact Src.ofSlice _ Tryd.underlying96 _ _ _ _ rfl (cells_new w3 (statV sampleS).toList 90) (statV_one _)
    case g2 => unfold maxLen; omega
    case g3 => omega
    case g4 => exact (HM3.out.alloc _).size
    intro v2 w6 hown hgrow hat
    obtain ⟨A2, cc2, rfl⟩ := own_ctor hown
    have HM6 := Lib.hid ((HM3.out.alloc _).grown hgrow (fun b hb => Or.inr (HO3.out.lt b hb).1))
    obtain ⟨fit2, hfit2⟩ : ∃ f2, f2 = fit ++ [sampleS] := ⟨_, rfl⟩
    have hl2 : fit.length + 1 = fit2.length := by rw [hfit2]; simp
    obtain ⟨m2, hm2⟩ : ∃ m2, m2 = max m 53 := ⟨_, rfl⟩
    have HF2 : Hid (∀ s ∈ fit2, s.Fits ∧ s.err = 0 ∧ s.size ≤ m2) := Lib.hid (fun x hx => by
      rw [hfit2] at hx
      rcases List.mem_append.1 hx with hx | hx
      · obtain ⟨h1, h2, h3⟩ := HFT.out x hx
        exact ⟨h1, h2, by omega⟩
      · simp at hx
        subst hx
        exact ⟨sample_fits, sample_err, by rw [sample_size]; omega⟩)
    have HO6 : Hid (w6.ownsRow w2.heap.size 90 13 (.slice A2 fit2.length cc2) fit2.length (flatT fit2)) := Lib.hid (by
      rw [← hl2]
      rw [hfit2, flatT_snoc]
      exact hown)
    have hmax2 : max (m : Int) 53 = (m2 : Int) := by omega
    have hfl2 : fit2.length ≤ 1001 := by omega
    have hmm2 : m2 ≤ 268435456 := by omega
    rw [hl2]
    have hpos : 0 < fit2.length := by omega
    clear hown hgrow hat hm2 hl2 hfit2 HFT HO HM HO3 HM3
    obtain ⟨g2, hA2, hcc2⟩ : ∃ g2, A2 = some ⟨g2, 0, none⟩ ∧ fit2.length ≤ cc2 := by
      rcases ownsRow_form HO6.out with ⟨h1, h2, -⟩ | ⟨g, cap, h1, h2, -⟩
      · omega
      · cases h1
        exact ⟨g, rfl, h2⟩
    subst hA2
    go_wp2_with fail
    go_loopw [10, 11] (fun v r wr => RelP2 w6 fit2 v r wr) (fun v _ _ => fit2.length - lenS v)
    case atStart => exact ⟨0, 0, by omega, by omega, rfl, World.ownsRow_nil _ _ _ _, Mods.refl _ _⟩
    case round =>
      obtain ⟨j, k, hj, hk, rfl, ho, hm⟩ := hrel
      obtain ⟨Ao, co, rfl⟩ := own_ctor ho
      have HO := Lib.hid ho
      have HM := Lib.hid hm
      have HMw := Lib.hid ((M2.out.trans HM6.out (by simp)).trans hm (by simp))
      clear ho hm
      by_cases hgo : j < fit2.length
      · obtain ⟨s, hs⟩ : ∃ s, fit2[j]? = some s := ⟨_, List.getElem?_eq_getElem hgo⟩
        have HS := Lib.hid hs
        clear hs
        go_upto_if 70 with fail
        go_cut [12] from 68 to 82 (fun v12 w' => w' = wr ∧ ∃ most : Int, v12 = .int .i64 most ∧ (m2 : Int) ≤ most ∧ most ≤ (m2 : Int) + 1000)
        case first =>
          by_cases hn : ns.length = 0
          · go_wp2_with fail
            go_meet
            case rel => exact ⟨rfl, _, rfl, by omega, by omega⟩
          · obtain ⟨q, hq, hqn⟩ : ∃ q : Nat, (k : Int) % (ns.length : Int) = (q : Int) ∧ q < ns.length := by
              refine ⟨k % ns.length, by simp, Nat.mod_lt _ (by omega)⟩
            obtain ⟨z, hz⟩ : ∃ z, ns[q]? = some z := ⟨_, List.getElem?_eq_getElem hqn⟩
            obtain ⟨hzl, hzh⟩ := HZ.out z (List.mem_of_getElem? hz)
            obtain ⟨A9, c9, e9, -, -, h9⟩ := HN.out.mods HMw.out (by simp)
            obtain ⟨g9, o9, e8, hcell⟩ := h9 q (intZ z) (by rw [List.getElem?_map, hz]; rfl)
            obtain ⟨e9, -, -⟩ := Value.slice.inj e9
            subst e9
            subst e8
            unfold intZ at hcell
            obtain ⟨y, hy, hy0, hy1⟩ : ∃ y : Int, (IntKind.u16.wrap z).tmod 1000 = y ∧ 0 ≤ y ∧ y < 1000 := by
              obtain ⟨h1, h2⟩ := u16_range z
              exact ⟨_, rfl, by rw [Int.tmod_eq_emod_of_nonneg h1]; omega, by rw [Int.tmod_eq_emod_of_nonneg h1]; omega⟩
            clear hz h9
            go_wp2_with fail
            go_meet
            case rel => exact ⟨rfl, _, rfl, by omega, by omega⟩
        case rest =>
          obtain ⟨rfl, most, rfl, hmo1, hmo2⟩ := hcut
          have hcj : ¬ cc2 = j := by omega
          have hsub := ((Sts.of_own HO6.out rfl).mods HM.out).drop hgo rfl
          have HSUB := Lib.hid hsub
          have HPK := Lib.hid (pack_any most ⟨by omega, by omega⟩ (fit2.drop j) hsub (tabs_mods HMw.out HT.out) (fun x hx => by
            obtain ⟨h1, h2, h3⟩ := HF2.out x (List.mem_of_mem_drop hx)
            exact ⟨h1, by omega⟩))
          clear hsub
          go_wp2_with fail
          refine HPK.out.mono ?_; rintro e w7 ⟨n, hpk, vb, rfl, hob, hm7⟩
          have hdl : (fit2.drop j).length = fit2.length - j := by simp
          have hcons : fit2.drop j = s :: fit2.drop (j + 1) := (List.drop_eq_getElem_cons hgo).trans (by
            have := HS.out
            rw [List.getElem?_eq_getElem hgo] at this
            injection this with this
            rw [this])
          have hn1 : 1 ≤ n := by
            obtain ⟨h1, h2, h3⟩ := HF2.out s (List.mem_of_getElem? HS.out)
            rw [hcons] at hpk
            exact hpk.pos h2 (by omega)
          have hnle : n ≤ fit2.length - j := by rw [← hdl]; exact hpk.le
          have hroom : ((encT ((fit2.drop j).take n)).length : Int) ≤ most := by
            rcases hpk.room with h | h
            · omega
            · exact h
          obtain ⟨M, hrec, hMs⟩ := records_of (L := (fit2.drop j).take n) (fun x hx => by
            obtain ⟨h1, h2, h3⟩ := HF2.out x (List.mem_of_mem_drop (List.mem_of_mem_take hx))
            exact ⟨h1, h2⟩)
          have HFULL : Hid (∀ x, fit2[j + n]? = some x → ¬ (((encT ((fit2.drop j).take n)).length : Int) + (x.size : Int) ≤ most)) := Lib.hid (fun x hx => by
            rcases hpk.full x (by rw [List.getElem?_drop]; exact hx) with h | h
            · exact absurd (HF2.out x (List.mem_of_getElem? hx)).2.1 h
            · omega)
          have hMl : M.length = n := by
            have := congrArg List.length hMs
            rw [List.length_map, List.length_take, hdl] at this
            omega
          have HMS := Lib.hid hMs
          have HREC := Lib.hid hrec
          generalize hEE : encT ((fit2.drop j).take n) = E at *
          have hEl : E.length ≤ 268436456 := by omega
          obtain ⟨Ab, cb, rfl⟩ := own_ctor hob
          have HRA := Lib.hid (fun w' (hm : Mods [] w7 w') => records_any E ((Rd.of_own hob).mods hm (by simp)) (by omega) (tabs_mods ((HMw.out.trans hm7 (by simp)).trans hm (by simp)) HT.out))
          have HO7 := Lib.hid (ownsRow_mods HO.out hm7 (by simp))
          have HM7 := Lib.hid (HM.out.trans hm7 (by simp))
          have HROOM := Lib.hid hroom
          have HSUB7 := Lib.hid (HSUB.out.mods hm7)
          clear hpk hcons hMs hrec hEE hob hm7 HPK hdl HSUB
          subst hMl
          go_upto_region 28 with fail
          go_cut [122] from 93 to 122 (fun v w' => v = .bool false ∧ Mods [] w7 w')
          case first =>
            by_cases hnx : j + M.length < fit2.length
            · obtain ⟨x, hx⟩ : ∃ x, fit2[j + M.length]? = some x := ⟨_, List.getElem?_eq_getElem hnx⟩
              have hno := HFULL.out x hx
              have hxs : x.size ≤ 268435456 := by have := (HF2.out x (List.mem_of_getElem? hx)).2.2; omega
              have HSZ := Lib.hid (fun w' => rsize_any x w' (by have := (HF2.out x (List.mem_of_getElem? hx)).2.2; omega))
              have HM0 := Lib.hid (Mods.refl [] w7)
              obtain ⟨g', off', e', hrg⟩ := (HSUB7.out).at (i := M.length) (s := x) (by rw [List.getElem?_drop]; exact hx)
              cases e'
              obtain ⟨c0, c1, c2, c3, c4, c5, c6, c7, c8, c9, c10, c11, c12⟩ := range_stat hrg
              clear hrg hx
              go_wp2_with fail
              refine (HSZ.out _).mono ?_; rintro e w8 ⟨rfl, hm8⟩
              have HM8 := Lib.hid hm8
              clear hm8 c0 c1 c2 c3 c4 c5 c6 c7 c8 c9 c10 c11 c12
              go_wp2_with fail
              go_meet
              case rel => exact ⟨by congr 1; simpa using hno, HM8.out⟩
            · have HM0 := Lib.hid (Mods.refl [] w7)
              go_wp2_with fail
              go_meet
              case rel => exact ⟨rfl, HM0.out⟩
          case rest =>
            obtain ⟨rfl, hm8⟩ := hcut
            have HRA2 := Lib.hid (HRA.out _ hm8)
            have HO8 := Lib.hid (ownsRow_mods HO7.out hm8 (by simp))
            have HM8 := Lib.hid (HM7.out.trans hm8 (by simp))
            clear hm8
            go_wp2_with fail
            refine HRA2.out.mono ?_; rintro e w9 ⟨vl, rfl, hp⟩
            rw [HREC.out] at hp ⊢
            simp only at hp ⊢
            have hrow := hp.rowAt (Pc.Ent.refl _)
            have HM9 := Lib.hid (HM8.out.trans hp.mods (by simp))
            have HO9 := Lib.hid (ownsRow_mods HO8.out hp.mods (by simp))
            obtain ⟨gl, cl, hvl⟩ : ∃ gl cl, vl = .slice (some ⟨gl, 0, none⟩) M.length cl := by
              rcases ownsRow_form hrow with ⟨h1, h2, -⟩ | ⟨g, cap, h1, h2, -⟩
              · omega
              · exact ⟨g, cap, h1⟩
            subst hvl
            have HROW := Lib.hid hrow
            clear hp hrow
            go_wp2_with (at_builtin; go_must (refine wpList_app _ rfl _ _ 96 96 rfl w6.heap.size 90 i0 (.agg zeroV) 13 112 Tryd.underlying96 hi hz0 hz1 hz2 rfl _ _ _ rfl HO9.out _ M.length (flatS M) rfl ?f1 ?f2 ?f3 ?f4 ?_))
            case f1 => exact Src.ofSlice _ Tryd.underlying96 _ _ _ _ (by rw [flatS_T, flatT_len, List.length_map]) (fun j u h => HROW.out.cells rfl j u h) (by rw [flatS_T]; exact flatT_one _)
            case f2 => unfold maxLen; omega
            case f3 => omega
            case f4 => exact HM9.out.size
            intro v5 w10 hown hgrow hat
            obtain ⟨A5, c5, rfl⟩ := own_ctor hown
            have HR9 : Hid (RelP2 w6 fit2 (.slice A5 (j + M.length) c5) (.int .i64 ((k : Int) + 1)) w10) := Lib.hid ⟨j + M.length, k + 1, by omega, by omega, rfl, by
              rw [show fit2.take (j + M.length) = fit2.take j ++ (fit2.drop j).take M.length from List.take_add, flatT, List.flatMap_append]
              have h := hown
              rw [flatS_T, HMS.out] at h
              exact h, HM9.out.grown hgrow (fun b hb => Or.inr (HO9.out.lt b hb).1)⟩
            clear hown hgrow hat
            go_wp2_with fail
            exact ⟨HR9.out, by simp only [lenS]; omega⟩
      · obtain rfl : j = fit2.length := by omega
        have HAL := Lib.hid (alike_same fit2 (w := wr) (Sts.of_own (by have := HO.out; rw [List.take_length] at this; exact this) rfl) ((Sts.of_own HO6.out rfl).mods HM.out) (by omega))
        go_wp2_with fail
        refine HAL.out.mono ?_; rintro e w11 ⟨rfl, hm11⟩
        have HM11 := Lib.hid (HMw.out.trans hm11 (by simp))
        clear hm11
        go_wp2_with fail
        go_ret
        exact ⟨rfl, HM11.out⟩
end Go.Proofs.YtedddekkbgaolaaDoor
