/- WireReads is proved: for every texts and script the law returns true, and each argument reads behind the call as it read before; the two tables of the UTF-8 package lie as its text lays them. -/
import Derived.Test.YtedddekkbgaolaaDoorWrap
import Derived.Test.YtedddekkbgaolaaDoorRl
import Derived.Test.YtedddekkbgaolaaDoorOa
namespace Go.Proofs.YtedddekkbgaolaaDoor.lawReads
open Go.ChangeShapes Go.WideShapes Go.ChangeAt Go.RowKit Go.Deep Me

theorem read30 : Tryd.prog.readableRec 30 = true := by kernel_rfl
theorem row30 : 30 < Tryd.prog.types.size := of_decide_eq_true (by kernel_rfl)
theorem read42 : Tryd.prog.readableRec 42 = true := by kernel_rfl
theorem row42 : 42 < Tryd.prog.types.size := of_decide_eq_true (by kernel_rfl)

theorem bytesOf43 : Tryd.prog.bytesOf 43 = 24 := by kernel_rfl
set_option maxRecDepth 100000 in
/-- A list of lists of bytes as an argument. -/
theorem open_texts {H : Type} {enc : TypeId × Value → H} {w : World} {r : Reach} {b0 : Nat} {v : Value} {d : DataW H} {ps : List MemPlace} (hv : Value.okWide Tryd.prog w r b0 42 v) (h : DataW.Trod enc Tryd.prog w 0 (fun _ => true) true 42 v d ps)
    {ts : List TypeId} {ds : List (DataW H)} (hsz : (DataW.weightsEach Tryd.prog ts ds).all (· ≤ reachBytes) = true) {j : Nat} (ht : ts[j]? = some 42) (hd : ds[j]? = some d) :
    ∃ L : List (List UInt8 × Value), Txts w v L := by
  obtain ⟨a, len, cap, rfl⟩ := okWide_slice Tryd.underlying42 hv
  obtain ⟨fuel, hf⟩ := h
  have hw : ∀ n ∈ d.weights Tryd.prog 42, n ≤ reachBytes := fun n hn => by
    have := List.all_eq_true.1 hsz _ (DataW.weights_mem_each ht hd n hn)
    simpa using this
  rcases open_slice Tryd.underlying42 hf with ⟨hcs, hx⟩ | ⟨a', len', cap', m, n, D, Pl, hcs, hb, hl, hm, hmm, hx, hi⟩
  · simp only [Value.cells, List.cons.injEq, and_true, Value.slice.injEq] at hcs
    obtain ⟨rfl, rfl, rfl⟩ := hcs
    exact ⟨[], ⟨none, 0, rfl, Nat.le_refl _, by decide, fun j u hu => by simp at hu⟩, fun p hp => by cases hp⟩
  · simp only [Value.cells, List.cons.injEq, and_true, Value.slice.injEq] at hcs
    obtain ⟨rfl, rfl, rfl⟩ := hcs
    simp only [if_true] at hmm
    subst hmm
    simp only [Prod.mk.injEq] at hx
    obtain ⟨hx, -⟩ := hx
    rw [hx] at hw
    simp only [DataW.weights, Tryd.underlying42, List.mem_cons, List.mem_append] at hw
    have key : ∀ i, i < len → ∃ p : List UInt8 × Value, w.cells? 0 (a'.add (i * 1)) 1 = some [p.2] ∧ Rd w p.2 (p.1.map byteV) ∧ p.1.length ≤ 140737488355328 := by
      intro i hil
      obtain ⟨cs, h1, h2⟩ := hi i (by omega)
      rw [cellsOf43] at h1
      have hlen := (World.cells?_some h1).2.1
      match cs, hlen with
      | [c], _ =>
        obtain ⟨l, hl', m', hm', hlm⟩ := open_bytes_cells h2
        refine ⟨(l, c), h1, hl', ?_⟩
        have : m' ≤ reachBytes := by
          rcases List.mem_append.1 hm' with h | h
          · exact hw m' (Or.inr (Or.inl (wAll_mem (List.mem_map.2 ⟨i, List.mem_range.2 hil, rfl⟩) m' h)))
          · simp at h
            omega
        unfold reachBytes at this
        show l.length ≤ _
        omega
    have ex : ∃ F : Nat → List UInt8 × Value, ∀ i, i < len → w.cells? 0 (a'.add (i * 1)) 1 = some [(F i).2] ∧ Rd w (F i).2 ((F i).1.map byteV) ∧ (F i).1.length ≤ 140737488355328 := by
      refine ⟨fun i => if h : i < len then (key i h).choose else ([], .slice none 0 0), fun i hil => ?_⟩
      simp only [hil, dif_pos]
      exact (key i hil).choose_spec
    obtain ⟨F, hF⟩ := ex
    refine ⟨(List.range len).map F, ⟨some a', m, by simp, by simpa using hl, hm, fun i u hu => ?_⟩, fun p hp => ?_⟩
    · rw [List.map_map, List.getElem?_map] at hu
      obtain ⟨i', hi', rfl⟩ := Option.map_eq_some_iff.1 hu
      have hil : i < len := by have := (List.getElem?_eq_some_iff.1 hi').1; simpa using this
      have hii : i' = i := by
        have := (List.getElem?_eq_some_iff.1 hi').2
        simpa using this.symm
      subst hii
      obtain ⟨-, -, hc⟩ := World.cells?_some (hF i' hil).1
      obtain ⟨g, off, spot⟩ := a'
      have hspot : spot = none := by
        obtain ⟨-, -, hc0⟩ := World.cells?_some (hF 0 (by omega)).1
        have := hc0 0 (by omega)
        simp only [List.getElem?_cons_zero] at this
        have hsp := World.cell?_spot this
        simpa [Addr.add] using hsp
      subst hspot
      refine ⟨g, off, rfl, ?_⟩
      have := hc 0 (by omega)
      rw [Go.WideShapes.add_plain, Go.WideShapes.add_plain] at this
      simpa using this
    · obtain ⟨i, hi', rfl⟩ := List.mem_map.1 hp
      exact (hF i (List.mem_range.1 hi')).2

set_option maxRecDepth 100000 in
theorem contract (H : Type) (enc : TypeId × Value → H) (W : World) (base : Nat) (args : Array Value) (ds gs : List (DataW H)) (before : List MemPlace)
    (hval0 : ∀ (j : Nat) t v, Tryd.f8.params[j]? = some t → args[j]? = some v → Value.okWide Tryd.prog W .any base t v)
    (hsz0 : (DataW.weightsEach Tryd.prog (Tryd.f8.params.toList ++ Rows.wireReadsSpec.plain.varTypes Tryd.prog) (ds ++ gs)).all (· ≤ reachBytes) = true)
    (hW : DataW.Whole enc Tryd.prog Tryd.f8.params.toList Rows.wireReadsSpec.vars false W args.toList ds gs before) (hL : laidMetH Tryd.prog Rows.wireReadsRow.laid W) :
    Calls Tryd.prog 8 args W fun e W' => ∃ v, e = .returned v ∧ Rows.wireReadsSpec.post enc Tryd.prog Tryd.f8 false true false false W args v W' := by
  have hval : ∀ (j : Nat) t v, Tryd.f8.params[j]? = some t → args[j]? = some v → Value.okWide Tryd.prog W .any base t v := hval0
  have hW' := hW
  obtain ⟨p, q, hA0, hV, rfl, hfz, hnd⟩ := hW
  have hA : DataW.TrodAll enc Tryd.prog W 0 (fun _ => true) true Tryd.f8.params.toList args.toList ds p := hA0
  have hsz : (DataW.weightsEach Tryd.prog (Tryd.f8.params.toList ++ Rows.wireReadsSpec.plain.varTypes Tryd.prog) (ds ++ gs)).all (· ≤ reachBytes) = true := hsz0
  rw [Tryd.params8] at hA hval hsz
  obtain ⟨v0, v1, d0, d1, p0, p1, rfl, rfl, rfl, h0, h1⟩ := trodAll_two hA
  obtain ⟨rfl, rfl⟩ := trodVars_none hV
  obtain ⟨L0, hL0⟩ := open_texts (hval 0 42 v0 rfl rfl) h0 hsz (j := 0) rfl rfl
  obtain ⟨L1, hO1, hI1, hl1⟩ := open_script (hval 1 30 v1 rfl rfl) h1 hsz (j := 1) rfl rfl
  clear hA0 hval0
  simp only [List.append_nil] at hW'
  have hlt0 : ∀ x ∈ p0, x.block < W.heap.size := fun x hx => hW'.lt x (List.mem_append_left _ hx)
  have hlt1 : ∀ x ∈ p1, x.block < W.heap.size := fun x hx => hW'.lt x (List.mem_append_right _ hx)
  refine (reads_law (tabs hL) L0 hL0 L1 hO1 hI1 hl1).mono fun e W' ⟨he, hb⟩ => ?_
  subst he
  exact ⟨_, rfl, post_of_below (pa := p0 ++ p1) (pv := []) hW' (fun _ _ _ => trodAll_mk1 (shut_bool Tryd.underlying4 _))
    (fun sp hs => trodAll_mk2 (shut_stays read42 row42 h0 (hb.toBelow (by simp)) hlt0 (fun x hx => hs x (List.mem_append_left _ hx))) (shut_stays read30 row30 h1 (hb.toBelow (by simp)) hlt1 (fun x hx => hs x (List.mem_append_right _ hx)))) (fun _ _ => rfl) (by simp) (hb.toBelow (by simp))
    (ok_one (by kernel_rfl) rfl (okWide_bool_mk Tryd.underlying4 true))⟩

theorem laid_met (os : Os) : laidMet Tryd.prog Rows.wireReadsRow.laid ((laidWorld os).forCall (fun _ _ => 0) ⟨#[], #[.slice none 0 0, .slice none 0 0], []⟩).memory :=
  laidMet_of_run' 8 (by kernel_rfl) (by kernel_rfl)
theorem reads (os : Os) {H : Type} (enc : TypeId × Value → H) : ∃ places, DataW.whole enc Tryd.prog ((laidWorld os).forCall (fun _ _ => 0) ⟨#[], #[.slice none 0 0, .slice none 0 0], []⟩).memory Tryd.f8.params.toList Rows.wireReadsSpec.vars false #[Value.slice none 0 0, .slice none 0 0].toList 8 = some ([.nil, .nil], [], places) :=
  ⟨[], by kernel_rfl⟩

set_option maxRecDepth 100000 in
theorem lifted (os : Os) (started : os.Started) (H : Type) (enc : TypeId × Value → H) (F : Stop.Interp) :
    ReturnsInHanded {} Tryd.checked os 8 .any ((OpenSpec.ofChange Rows.wireReadsSpec).preRow enc Tryd.prog Tryd.f8 Rows.wireReadsRow.domain false Rows.wireReadsRow.laid) (((OpenSpec.ofChange Rows.wireReadsSpec).at F).post enc Tryd.prog Tryd.f8 false true false false) := by
  obtain ⟨places, hx⟩ := reads os enc
  refine returnsInHanded_of_row (C := Tryd.checked) (s := OpenSpec.ofChange Rows.wireReadsSpec) own started (by kernel_rfl) Tryd.func8
    (witness_row_at (enc := enc) (C := Tryd.checked) false (laidWorld os) #[.slice none 0 0, .slice none 0 0] rfl (by kernel_rfl) (by kernel_rfl) (by kernel_rfl)
      (OpenSpec.preRow_of_cond 8 hx (by kernel_rfl) (fun k hk => by cases hk) (by kernel_rfl) (laid_met os))) ?_
  intro W base args ds gs before hval hW _ _ hsz hL _ _
  exact contract H enc W base args ds gs before hval hsz hW hL

theorem said : Rows.WireReadsSaid :=
  OpenClaim.holds_of_cond 8 Tryd.f8 rfl rfl rfl rfl rfl rfl rfl ⟨rfl, rfl, rfl, rfl, rfl⟩ rfl rfl rfl rfl rfl (by kernel_rfl) Tryd.func8 (by kernel_rfl)
    (of_decide_eq_true (by kernel_rfl)) (by unfold Func.isWrapper; first | (rw [if_pos (by decide +kernel)]; kernel_rfl) | (rw [if_neg (by decide +kernel)]; exact ⟨rfl, rfl⟩))
    (fun os started H enc _ F => by rw [OpenClaim.pre_eq_preRow]; exact lifted os started H enc F)

theorem plain (f : FuncId) (fn : Func) (hf : Tryd.pinned.checked.prog.funcNamed Rows.wireReadsRow.func = some f) (hfn : Tryd.pinned.checked.prog.funcs[f]? = some fn) :
    false = Tryd.pinned.checked.prog.looks [] ∧ ∀ (j : Nat) t, fn.params[j]? = some t → Tryd.pinned.checked.prog.wantsStandIn t = false := by
  obtain rfl : f = 8 := Option.some.inj ((show Tryd.prog.funcNamed Rows.wireReadsRow.func = some 8 by kernel_rfl).symm.trans hf) |>.symm
  obtain rfl : fn = Tryd.f8 := (Option.some.inj (Tryd.func8.symm.trans hfn)).symm
  refine ⟨by kernel_rfl, fun j t ht => ?_⟩
  rw [Tryd.params8] at ht
  have hm : t = 42 ∨ t = 30 := by simpa using Array.mem_of_getElem? ht
  rcases hm with rfl | rfl
  · exact (show Tryd.prog.wantsStandIn 42 = false by kernel_rfl)
  · exact (show Tryd.prog.wantsStandIn 30 = false by kernel_rfl)

theorem card : Rows.WireReadsCardSaid :=
  Claim7.holds_tied_plain_at .later [] _ _ _ _ said (fun _ h => by cases h) (by kernel_rfl) (fun _ h => by cases h) wireReads_row_tie rfl ⟨rfl, rfl⟩ (by kernel_rfl) rfl plain (by kernel_rfl)
end Go.Proofs.YtedddekkbgaolaaDoor.lawReads
