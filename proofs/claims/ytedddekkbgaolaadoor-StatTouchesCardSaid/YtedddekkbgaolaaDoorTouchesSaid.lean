/- StatTouches is proved: for every two records the law returns true, and each argument reads behind the call as it read before; the two tables of the UTF-8 package lie as its text lays them. -/
import Derived.Test.YtedddekkbgaolaaDoorWrap
import Derived.Test.YtedddekkbgaolaaDoorTc
import Derived.Test.YtedddekkbgaolaaDoorOs
namespace Go.Proofs.YtedddekkbgaolaaDoor.lawTouches
open Go.ChangeShapes Go.WideShapes Go.ChangeAt Go.RowKit

theorem read90 : Tryd.prog.readableRec 90 = true := by kernel_rfl
theorem row90 : 90 < Tryd.prog.types.size := of_decide_eq_true (by kernel_rfl)
set_option maxRecDepth 100000 in
theorem contract (H : Type) (enc : TypeId × Value → H) (W : World) (base : Nat) (args : Array Value) (ds gs : List (DataW H)) (before : List MemPlace)
    (hval0 : ∀ (j : Nat) t v, Tryd.f15.params[j]? = some t → args[j]? = some v → Value.okWide Tryd.prog W .any base t v)
    (hsz0 : (DataW.weightsEach Tryd.prog (Tryd.f15.params.toList ++ Rows.statTouchesSpec.plain.varTypes Tryd.prog) (ds ++ gs)).all (· ≤ reachBytes) = true)
    (hW : DataW.Whole enc Tryd.prog Tryd.f15.params.toList Rows.statTouchesSpec.vars false W args.toList ds gs before) (hL : laidMetH Tryd.prog Rows.statTouchesRow.laid W) :
    Calls Tryd.prog 15 args W fun e W' => ∃ v, e = .returned v ∧ Rows.statTouchesSpec.post enc Tryd.prog Tryd.f15 false true false false W args v W' := by
  have hval : ∀ (j : Nat) t v, Tryd.f15.params[j]? = some t → args[j]? = some v → Value.okWide Tryd.prog W .any base t v := hval0
  have hW' := hW
  obtain ⟨p, q, hA0, hV, rfl, hfz, hnd⟩ := hW
  have hA : DataW.TrodAll enc Tryd.prog W 0 (fun _ => true) true Tryd.f15.params.toList args.toList ds p := hA0
  have hsz : (DataW.weightsEach Tryd.prog (Tryd.f15.params.toList ++ Rows.statTouchesSpec.plain.varTypes Tryd.prog) (ds ++ gs)).all (· ≤ reachBytes) = true := hsz0
  rw [Tryd.params15] at hA hval hsz
  obtain ⟨v0, v1, d0, d1, p0, p1, rfl, rfl, rfl, h0, h1⟩ := trodAll_two hA
  obtain ⟨rfl, rfl⟩ := trodVars_none hV
  obtain ⟨a, rfl, ha, rfl, rfl⟩ := open_stat (hval 0 90 v0 rfl rfl) h0
  obtain ⟨h, rfl, hh, rfl, rfl⟩ := open_stat (hval 1 90 v1 rfl rfl) h1
  have hza := sized_stat hsz (j := 0) (s := a) rfl rfl
  have hzh := sized_stat hsz (j := 1) (s := h) rfl rfl
  clear hA0 hval0
  simp only [List.append_nil] at hW'
  refine (touches_any (tabs hL) a h ha hh hza hzh).mono fun e W' ⟨he, hb⟩ => ?_
  subst he
  exact ⟨_, rfl, post_of_below (pa := []) (pv := []) hW' (fun _ _ _ => trodAll_mk1 (shut_bool Tryd.underlying4 _))
    (fun sp _ => trodAll_mk2 (shut_stays read90 row90 h0 (hb.toBelow (by simp)) (by simp) (by simp)) (shut_stays read90 row90 h1 (hb.toBelow (by simp)) (by simp) (by simp))) (fun _ _ => rfl) rfl (hb.toBelow (by simp))
    (ok_one (by kernel_rfl) rfl (okWide_bool_mk Tryd.underlying4 true))⟩

theorem laid_met (os : Os) : laidMet Tryd.prog Rows.statTouchesRow.laid ((laidWorld os).forCall (fun _ _ => 0) ⟨#[], #[.agg zeroV, .agg zeroV], []⟩).memory :=
  laidMet_of_run' 8 (by kernel_rfl) (by kernel_rfl)
theorem reads (os : Os) {H : Type} (enc : TypeId × Value → H) : ∃ places, DataW.whole enc Tryd.prog ((laidWorld os).forCall (fun _ _ => 0) ⟨#[], #[.agg zeroV, .agg zeroV], []⟩).memory Tryd.f15.params.toList Rows.statTouchesSpec.vars false #[Value.agg zeroV, .agg zeroV].toList 8 = some ([statD StatP.zero, statD StatP.zero], [], places) :=
  ⟨[], by kernel_rfl⟩

set_option maxRecDepth 100000 in
theorem lifted (os : Os) (started : os.Started) (H : Type) (enc : TypeId × Value → H) (F : Stop.Interp) :
    ReturnsInHanded {} Tryd.checked os 15 .any ((OpenSpec.ofChange Rows.statTouchesSpec).preRow enc Tryd.prog Tryd.f15 Rows.statTouchesRow.domain false Rows.statTouchesRow.laid) (((OpenSpec.ofChange Rows.statTouchesSpec).at F).post enc Tryd.prog Tryd.f15 false true false false) := by
  obtain ⟨places, hx⟩ := reads os enc
  refine returnsInHanded_of_row (C := Tryd.checked) (s := OpenSpec.ofChange Rows.statTouchesSpec) own started (by kernel_rfl) Tryd.func15
    (witness_row_at (enc := enc) (C := Tryd.checked) false (laidWorld os) #[.agg zeroV, .agg zeroV] rfl (by kernel_rfl) (by kernel_rfl) (by kernel_rfl)
      (OpenSpec.preRow_of_cond 8 hx (by kernel_rfl) (fun k hk => by cases hk) (by kernel_rfl) (laid_met os))) ?_
  intro W base args ds gs before hval hW _ _ hsz hL _ _
  exact contract H enc W base args ds gs before hval hsz hW hL

theorem said : Rows.StatTouchesSaid :=
  OpenClaim.holds_of_cond 15 Tryd.f15 rfl rfl rfl rfl rfl rfl rfl ⟨rfl, rfl, rfl, rfl, rfl⟩ rfl rfl rfl rfl rfl (by kernel_rfl) Tryd.func15 (by kernel_rfl)
    (of_decide_eq_true (by kernel_rfl)) (by unfold Func.isWrapper; first | (rw [if_pos (by decide +kernel)]; kernel_rfl) | (rw [if_neg (by decide +kernel)]; exact ⟨rfl, rfl⟩))
    (fun os started H enc _ F => by rw [OpenClaim.pre_eq_preRow]; exact lifted os started H enc F)

theorem plain (f : FuncId) (fn : Func) (hf : Tryd.pinned.checked.prog.funcNamed Rows.statTouchesRow.func = some f) (hfn : Tryd.pinned.checked.prog.funcs[f]? = some fn) :
    false = Tryd.pinned.checked.prog.looks [] ∧ ∀ (j : Nat) t, fn.params[j]? = some t → Tryd.pinned.checked.prog.wantsStandIn t = false := by
  obtain rfl : f = 15 := Option.some.inj ((show Tryd.prog.funcNamed Rows.statTouchesRow.func = some 15 by kernel_rfl).symm.trans hf) |>.symm
  obtain rfl : fn = Tryd.f15 := (Option.some.inj (Tryd.func15.symm.trans hfn)).symm
  refine ⟨by kernel_rfl, fun j t ht => ?_⟩
  rw [Tryd.params15] at ht
  have hm : t = 90 := by
    have := Array.mem_of_getElem? ht
    simpa using this
  subst hm
  exact (show Tryd.prog.wantsStandIn 90 = false by kernel_rfl)

theorem card : Rows.StatTouchesCardSaid :=
  Claim7.holds_tied_plain_at .later [] _ _ _ _ said (fun _ h => by cases h) (by kernel_rfl) (fun _ h => by cases h) statTouches_row_tie rfl ⟨rfl, rfl⟩ (by kernel_rfl) rfl plain (by kernel_rfl)
end Go.Proofs.YtedddekkbgaolaaDoor.lawTouches
