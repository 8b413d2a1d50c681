/- StatPieces is proved: for every records and sizes the law returns true, and each argument reads behind the call as it read before; the two tables of the UTF-8 package lie as its text lays them. -/
import Derived.Test.YtedddekkbgaolaaDoorWrap
import Derived.Test.YtedddekkbgaolaaDoorPl
import Derived.Test.YtedddekkbgaolaaDoorOs
import Derived.Deep.Slices
namespace Go.Proofs.YtedddekkbgaolaaDoor.lawPieces
open Go.ChangeShapes Go.WideShapes Go.ChangeAt Go.RowKit Go.Deep Me

theorem read96 : Tryd.prog.readableRec 96 = true := by kernel_rfl
theorem row96 : 96 < Tryd.prog.types.size := of_decide_eq_true (by kernel_rfl)
theorem read25 : Tryd.prog.readableRec 25 = true := by kernel_rfl
theorem row25 : 25 < Tryd.prog.types.size := of_decide_eq_true (by kernel_rfl)
theorem cellsOf3 : Tryd.prog.cellsOf 3 = 1 := by kernel_rfl

set_option maxRecDepth 100000 in
/-- A list of ints as an argument: its elements, read out of the world. -/
theorem open_list {H : Type} {enc : TypeId × Value → H} {w : World} {base : Nat} {v : Value} {d : DataW H} {ps : List MemPlace} (hval : Value.okWide Tryd.prog w .any base 25 v)
    (h : DataW.Trod enc Tryd.prog w 0 (fun _ => true) true 25 v d ps) : ∃ ns : List Int, Rd w v (ns.map intZ) ∧ ∀ z ∈ ns, -9223372036854775808 ≤ z ∧ z ≤ 9223372036854775807 := by
  obtain ⟨a, len, cap, rfl⟩ := okWide_slice Tryd.underlying25 hval
  obtain ⟨fuel, hf⟩ := h
  rcases open_ints Tryd.underlying25 Tryd.underlying3 cellsOf3 hf with ⟨hcs, hx⟩ | ⟨a', len', cap', zs, hcs, hb, hl, hm, hlen, hx, hcell, hwf⟩
  · simp only [Value.cells, List.cons.injEq, and_true, Value.slice.injEq] at hcs
    obtain ⟨rfl, rfl, rfl⟩ := hcs
    exact ⟨[], ⟨none, 0, rfl, Nat.le_refl _, by decide, fun j u hu => by simp at hu⟩, fun z hz => by cases hz⟩
  · simp only [Value.cells, List.cons.injEq, and_true, Value.slice.injEq] at hcs
    obtain ⟨rfl, rfl, rfl⟩ := hcs
    simp only [if_true] at hlen
    refine ⟨zs.take len, ⟨some a', cap, by rw [List.length_map, List.length_take, Nat.min_eq_left (by omega)], by rw [List.length_map, List.length_take, Nat.min_eq_left (by omega)]; exact hl, hm, fun j u hu => ?_⟩, fun z hz => ?_⟩
    · rw [List.getElem?_map] at hu
      obtain ⟨z, hz, rfl⟩ := Option.map_eq_some_iff.1 hu
      obtain ⟨hj, hz'⟩ := List.getElem?_eq_some_iff.1 hz
      rw [List.length_take] at hj
      obtain ⟨b, off, rfl, hc⟩ := ints_at hcell (by omega)
      refine ⟨b, off, rfl, ?_⟩
      rw [hc j (by omega), ← hz', List.getElem_take]
      simp [intZ, show j < zs.length by omega]
    · exact bounds_i64 (hwf z (List.mem_of_mem_take hz))

theorem wAll_mem {H : Type} {P : Program} {e : TypeId} : ∀ {l : List (DataW H)} {d : DataW H}, d ∈ l → ∀ n ∈ d.weights P e, n ∈ DataW.weightsAll P e l
  | x :: l, d, hd, n, hn => by
    rw [DataW.weightsAll]
    rcases List.mem_cons.1 hd with rfl | hd
    · exact List.mem_append_left _ hn
    · exact List.mem_append_right _ (wAll_mem hd n hn)
set_option maxRecDepth 100000 in
/-- A list of records as an argument. -/
theorem open_stats {H : Type} {enc : TypeId × Value → H} {w : World} {r : Reach} {b0 : Nat} {v : Value} {d : DataW H} {ps : List MemPlace} (hv : Value.okWide Tryd.prog w r b0 96 v) (h : DataW.Trod enc Tryd.prog w 0 (fun _ => true) true 96 v d ps)
    {ts : List TypeId} {ds : List (DataW H)} (hsz : (DataW.weightsEach Tryd.prog ts ds).all (· ≤ reachBytes) = true) {j : Nat} (ht : ts[j]? = some 96) (hd : ds[j]? = some d) :
    ∃ L : List StatP, Sts w v L ∧ ∀ s ∈ L, s.Fits ∧ s.size ≤ 600000000000000 := by
  obtain ⟨a, len, cap, rfl⟩ := okWide_slice Tryd.underlying96 hv
  obtain ⟨fuel, hf⟩ := h
  have hw : ∀ n ∈ d.weights Tryd.prog 96, n ≤ reachBytes := fun n hn => by
    have := List.all_eq_true.1 hsz _ (DataW.weights_mem_each ht hd n hn)
    simpa using this
  rcases open_slice Tryd.underlying96 hf with ⟨hcs, hx⟩ | ⟨a', len', cap', m, n, D, Pl, hcs, hb, hl, hm, hmm, hx, hi⟩
  · simp only [Value.cells, List.cons.injEq, and_true, Value.slice.injEq] at hcs
    obtain ⟨rfl, rfl, rfl⟩ := hcs
    exact ⟨[], ⟨none, 0, rfl, Nat.le_refl _, by decide, fun i s hs => by simp at hs⟩, fun s hs => by cases hs⟩
  · simp only [Value.cells, List.cons.injEq, and_true, Value.slice.injEq] at hcs
    obtain ⟨rfl, rfl, rfl⟩ := hcs
    simp only [if_true] at hmm
    subst hmm
    simp only [Prod.mk.injEq] at hx
    obtain ⟨hx, -⟩ := hx
    rw [hx] at hw
    simp only [DataW.weights, Tryd.underlying96, List.mem_cons, List.mem_append] at hw
    have key : ∀ i, i < len → ∃ s : StatP, w.cells? 0 (a'.add (i * 13)) 13 = some (statV s).toList ∧ s.Fits ∧ s.size ≤ 600000000000000 := by
      intro i hil
      obtain ⟨cs, h1, h2⟩ := hi i (by omega)
      rw [cellsOf90] at h1
      obtain ⟨s, rfl, hfit, hD⟩ := open_stat_cells h2
      simp only [Prod.mk.injEq] at hD
      refine ⟨s, h1, hfit, ?_⟩
      have k : ∀ t : ByteArray, t ∈ s.texts → t.size ≤ reachBytes := by
        intro t hm'
        refine hw t.size (Or.inr (Or.inl (wAll_mem (List.mem_map.2 ⟨i, List.mem_range.2 hil, rfl⟩) t.size ?_)))
        rw [hD.1]
        simp only [StatP.texts, List.mem_cons, List.not_mem_nil, or_false] at hm'
        simp only [statD, DataW.weights, Tryd.underlying90, Tryd.underlying88, DataW.weightsEach, List.map_cons, List.map_nil, List.nil_append, List.append_nil, List.cons_append, List.mem_cons, List.not_mem_nil, or_false, Array.length_toList, ByteArray.size_data]
        rcases hm' with rfl | rfl | rfl | rfl
        · exact Or.inl rfl
        · exact Or.inr (Or.inl rfl)
        · exact Or.inr (Or.inr (Or.inl rfl))
        · exact Or.inr (Or.inr (Or.inr rfl))
      have k1 := k s.name (by simp [StatP.texts])
      have k2 := k s.uid (by simp [StatP.texts])
      have k3 := k s.gid (by simp [StatP.texts])
      have k4 := k s.muid (by simp [StatP.texts])
      unfold reachBytes at k1 k2 k3 k4
      unfold StatP.size
      omega
    have ex : ∃ F : Nat → StatP, ∀ i, i < len → w.cells? 0 (a'.add (i * 13)) 13 = some (statV (F i)).toList ∧ (F i).Fits ∧ (F i).size ≤ 600000000000000 := by
      refine ⟨fun i => if h : i < len then (key i h).choose else sampleS, fun i hil => ?_⟩
      simp only [hil, dif_pos]
      exact (key i hil).choose_spec
    obtain ⟨F, hF⟩ := ex
    refine ⟨(List.range len).map F, ⟨some a', m, by simp, by simpa using hl, hm, fun i s hs => ?_⟩, fun s hs => ?_⟩
    · rw [List.getElem?_map] at hs
      obtain ⟨i', hi', rfl⟩ := Option.map_eq_some_iff.1 hs
      have hil : i < len := by have := (List.getElem?_eq_some_iff.1 hi').1; simpa using this
      have hii : i' = i := by
        have := (List.getElem?_eq_some_iff.1 hi').2
        simpa using this.symm
      subst hii
      obtain ⟨-, -, hc⟩ := World.cells?_some (hF i' hil).1
      obtain ⟨g, off, spot⟩ := a'
      have hspot : spot = none := by
        obtain ⟨-, -, hc0⟩ := World.cells?_some (hF 0 (by omega)).1
        have := hc0 0 (by omega)
        have hsp := World.cell?_spot (this.trans (show (statV (F 0)).toList[0]? = some _ from rfl))
        simpa [Addr.add] using hsp
      subst hspot
      refine ⟨g, off, rfl, fun k u hu => ?_⟩
      have hk : k < 13 := by have := (List.getElem?_eq_some_iff.1 hu).1; rwa [statV_len'] at this
      have := hc k hk
      rw [Go.WideShapes.add_plain, Go.WideShapes.add_plain] at this
      rw [hu] at this
      exact this
    · obtain ⟨i, hi', rfl⟩ := List.mem_map.1 hs
      exact (hF i (List.mem_range.1 hi')).2

set_option maxRecDepth 100000 in
theorem contract (H : Type) (enc : TypeId × Value → H) (W : World) (base : Nat) (args : Array Value) (ds gs : List (DataW H)) (before : List MemPlace)
    (hval0 : ∀ (j : Nat) t v, Tryd.f14.params[j]? = some t → args[j]? = some v → Value.okWide Tryd.prog W .any base t v)
    (hsz0 : (DataW.weightsEach Tryd.prog (Tryd.f14.params.toList ++ Rows.statPiecesSpec.plain.varTypes Tryd.prog) (ds ++ gs)).all (· ≤ reachBytes) = true)
    (hW : DataW.Whole enc Tryd.prog Tryd.f14.params.toList Rows.statPiecesSpec.vars false W args.toList ds gs before) (hL : laidMetH Tryd.prog Rows.statPiecesRow.laid W) :
    Calls Tryd.prog 14 args W fun e W' => ∃ v, e = .returned v ∧ Rows.statPiecesSpec.post enc Tryd.prog Tryd.f14 false true false false W args v W' := by
  have hval : ∀ (j : Nat) t v, Tryd.f14.params[j]? = some t → args[j]? = some v → Value.okWide Tryd.prog W .any base t v := hval0
  have hW' := hW
  obtain ⟨p, q, hA0, hV, rfl, hfz, hnd⟩ := hW
  have hA : DataW.TrodAll enc Tryd.prog W 0 (fun _ => true) true Tryd.f14.params.toList args.toList ds p := hA0
  have hsz : (DataW.weightsEach Tryd.prog (Tryd.f14.params.toList ++ Rows.statPiecesSpec.plain.varTypes Tryd.prog) (ds ++ gs)).all (· ≤ reachBytes) = true := hsz0
  rw [Tryd.params14] at hA hval hsz
  obtain ⟨v0, v1, d0, d1, p0, p1, rfl, rfl, rfl, h0, h1⟩ := trodAll_two hA
  obtain ⟨rfl, rfl⟩ := trodVars_none hV
  obtain ⟨L, hL0, hF⟩ := open_stats (hval 0 96 v0 rfl rfl) h0 hsz (j := 0) rfl rfl
  obtain ⟨ns, hN, hz⟩ := open_list (base := base) (hval 1 25 v1 rfl rfl) h1
  clear hA0 hval0
  simp only [List.append_nil] at hW'
  have hlt0 : ∀ x ∈ p0, x.block < W.heap.size := fun x hx => hW'.lt x (List.mem_append_left _ hx)
  have hlt1 : ∀ x ∈ p1, x.block < W.heap.size := fun x hx => hW'.lt x (List.mem_append_right _ hx)
  refine (pieces_any (tabs hL) L hL0 hF ns hN hz).mono fun e W' ⟨he, hb⟩ => ?_
  subst he
  exact ⟨_, rfl, post_of_below (pa := p0 ++ p1) (pv := []) hW' (fun _ _ _ => trodAll_mk1 (shut_bool Tryd.underlying4 _))
    (fun sp hs => trodAll_mk2 (shut_stays read96 row96 h0 (hb.toBelow (by simp)) hlt0 (fun x hx => hs x (List.mem_append_left _ hx))) (shut_stays read25 row25 h1 (hb.toBelow (by simp)) hlt1 (fun x hx => hs x (List.mem_append_right _ hx)))) (fun _ _ => rfl) (by simp) (hb.toBelow (by simp))
    (ok_one (by kernel_rfl) rfl (okWide_bool_mk Tryd.underlying4 true))⟩

theorem laid_met (os : Os) : laidMet Tryd.prog Rows.statPiecesRow.laid ((laidWorld os).forCall (fun _ _ => 0) ⟨#[], #[.slice none 0 0, .slice none 0 0], []⟩).memory :=
  laidMet_of_run' 8 (by kernel_rfl) (by kernel_rfl)
theorem reads (os : Os) {H : Type} (enc : TypeId × Value → H) : ∃ places, DataW.whole enc Tryd.prog ((laidWorld os).forCall (fun _ _ => 0) ⟨#[], #[.slice none 0 0, .slice none 0 0], []⟩).memory Tryd.f14.params.toList Rows.statPiecesSpec.vars false #[Value.slice none 0 0, .slice none 0 0].toList 8 = some ([.nil, .nil], [], places) :=
  ⟨[], by kernel_rfl⟩

set_option maxRecDepth 100000 in
theorem lifted (os : Os) (started : os.Started) (H : Type) (enc : TypeId × Value → H) (F : Stop.Interp) :
    ReturnsInHanded {} Tryd.checked os 14 .any ((OpenSpec.ofChange Rows.statPiecesSpec).preRow enc Tryd.prog Tryd.f14 Rows.statPiecesRow.domain false Rows.statPiecesRow.laid) (((OpenSpec.ofChange Rows.statPiecesSpec).at F).post enc Tryd.prog Tryd.f14 false true false false) := by
  obtain ⟨places, hx⟩ := reads os enc
  refine returnsInHanded_of_row (C := Tryd.checked) (s := OpenSpec.ofChange Rows.statPiecesSpec) own started (by kernel_rfl) Tryd.func14
    (witness_row_at (enc := enc) (C := Tryd.checked) false (laidWorld os) #[.slice none 0 0, .slice none 0 0] rfl (by kernel_rfl) (by kernel_rfl) (by kernel_rfl)
      (OpenSpec.preRow_of_cond 8 hx (by kernel_rfl) (fun k hk => by cases hk) (by kernel_rfl) (laid_met os))) ?_
  intro W base args ds gs before hval hW _ _ hsz hL _ _
  exact contract H enc W base args ds gs before hval hsz hW hL

theorem said : Rows.StatPiecesSaid :=
  OpenClaim.holds_of_cond 14 Tryd.f14 rfl rfl rfl rfl rfl rfl rfl ⟨rfl, rfl, rfl, rfl, rfl⟩ rfl rfl rfl rfl rfl (by kernel_rfl) Tryd.func14 (by kernel_rfl)
    (of_decide_eq_true (by kernel_rfl)) (by unfold Func.isWrapper; first | (rw [if_pos (by decide +kernel)]; kernel_rfl) | (rw [if_neg (by decide +kernel)]; exact ⟨rfl, rfl⟩))
    (fun os started H enc _ F => by rw [OpenClaim.pre_eq_preRow]; exact lifted os started H enc F)

theorem plain (f : FuncId) (fn : Func) (hf : Tryd.pinned.checked.prog.funcNamed Rows.statPiecesRow.func = some f) (hfn : Tryd.pinned.checked.prog.funcs[f]? = some fn) :
    false = Tryd.pinned.checked.prog.looks [] ∧ ∀ (j : Nat) t, fn.params[j]? = some t → Tryd.pinned.checked.prog.wantsStandIn t = false := by
  obtain rfl : f = 14 := Option.some.inj ((show Tryd.prog.funcNamed Rows.statPiecesRow.func = some 14 by kernel_rfl).symm.trans hf) |>.symm
  obtain rfl : fn = Tryd.f14 := (Option.some.inj (Tryd.func14.symm.trans hfn)).symm
  refine ⟨by kernel_rfl, fun j t ht => ?_⟩
  rw [Tryd.params14] at ht
  have hm : t = 96 ∨ t = 25 := by simpa using Array.mem_of_getElem? ht
  rcases hm with rfl | rfl
  · exact (show Tryd.prog.wantsStandIn 96 = false by kernel_rfl)
  · exact (show Tryd.prog.wantsStandIn 25 = false by kernel_rfl)

theorem card : Rows.StatPiecesCardSaid :=
  Claim7.holds_tied_plain_at .later [] _ _ _ _ said (fun _ h => by cases h) (by kernel_rfl) (fun _ h => by cases h) statPieces_row_tie rfl ⟨rfl, rfl⟩ (by kernel_rfl) rfl plain (by kernel_rfl)
end Go.Proofs.YtedddekkbgaolaaDoor.lawPieces
