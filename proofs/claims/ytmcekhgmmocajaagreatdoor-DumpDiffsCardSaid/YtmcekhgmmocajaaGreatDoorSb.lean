/- The law's same, of two lists that say the same; DumpNumbers. -/
import Derived.Test.YtmcekhgmmocajaaGreatDoorSa
namespace Go.Proofs.YtmcekhgmmocajaaGreatDoor
open Go.RowKit Me Go.BigFrame

namespace Me
theorem wpQuiet_load_mid {P : Program} {ops : Array Oper} {C : World → Prop} {Q : Act → Prop} {a : Act} {o : Oper} {rest : List Oper} (hgd : o.guard = none) (ty : TypeId) (x : Operand) (ho : o.op = .load ty x)
    (g off : Nat) (hx : a.eval x = .pointer (some ⟨g, off, none⟩)) (cs : List Value) (d : TypeDesc) (hg : ∀ w', C w' → w'.rangeAt g off cs)
    (hu : P.underlying ty = some d) (hd : d.isRow = true) (hi : (P.info? ty).map (·.size) = some cs.length)
    (h : wpQuiet P ops C Q rest (a.put o.dst (.agg cs.toArray))) : wpQuiet P ops C Q (o :: rest) a := by
  refine wpQuiet_plain hgd ⟨.agg cs.toArray, fun w' hw' => ?_, h⟩
  unfold Oper.quietAt execOp
  simp only [ho, hx, Instr.loadAt, Instr.sureAddr, Sem.run_bind, Sem.run_pure, Result.andThen_ok, run_loadVar_mid w' g off ty cs d (hg w' hw') hu hd hi]
  exact ⟨rfl, rfl⟩
end Me
def RelSm (w : World) (L : List EntP) (i : Value) (wr : World) : Prop := ∃ k : Nat, k ≤ L.length ∧ i = .int .i64 k ∧ Mods [] w wr
set_option maxRecDepth 100000 in
set_option maxHeartbeats 2000000 in
theorem same_any {w : World} (L : List EntP) {v u : Value} (h1 : Ents w v L) (h2 : Ents w u L) :
    Calls Tryz.prog 9 #[v, u] w fun x w' => x = .returned (.bool true) ∧ Mods [] w w' := by
  have H1 := Lib.hid h1
  have H2 := Lib.hid h2
  obtain ⟨A, c, rfl, a1, a2, -⟩ := h1
  obtain ⟨B, d, rfl, -⟩ := h2
  have hLm : L.length ≤ 9223372036854775807 := by unfold maxLen at a2; omega
  clear a1 a2
  go_enter Tryz.func9, Tryz.ntmps9
  go_wp2_with fail
  go_loopw [5] (fun i wr => RelSm w L i wr) (fun i _ => L.length - (intOf i).toNat)
  case atStart => exact ⟨0, by omega, rfl, Mods.refl _ _⟩
  case round =>
    obtain ⟨k, hk, rfl, hm⟩ := hrel
    have HM := Lib.hid hm
    rcases Nat.lt_or_ge k L.length with hlt | hge
    · obtain ⟨e, hs⟩ : ∃ e, L[k]? = some e := ⟨_, List.getElem?_eq_getElem hlt⟩
      obtain ⟨g, off, va, rfl, hrg, hrd⟩ := (H1.out.mods hm).at hs
      obtain ⟨g2, off2, vb, rfl, hrg2, hrd2⟩ := (H2.out.mods hm).at hs
      have HA := Lib.hid (fun w' (hw : InC wr w') => alike_any e va vb w' (hrd.mods hw (by simp)) (hrd2.mods hw (by simp)))
      rw [entV_agg, entV_agg] at HA
      have HR1 := Lib.hid (fun w' (hw : InC wr w') => range_mods hrg hw (by simp))
      have HR2 := Lib.hid (fun w' (hw : InC wr w') => range_mods hrg2 hw (by simp))
      clear hrg hrd hrg2 hrd2 hs hm
      go_wp2_with fail
      refine wp_region_quiet (C := InC wr) (by kernel_rfl) (by kernel_rfl) (InC.drew wr) ?_
      dsimp only [List.toList_toArray]
      iterate 3 (go_big_quiet_want; go_big_quiet_op; first | go_big_quiet_on | (apply Exists.intro; refine ⟨fun w' hw' => ?_, ?_⟩; (first | rfl | exact ⟨rfl, rfl⟩); go_big_quiet_on))
      refine wpQuiet_load_mid rfl 47 _ rfl g (off + k * 5) rfl (entC e va) _ HR1.out Tryz.underlying47 rfl info38t ?_
      refine wpQuiet_step (fun K hK => ?_)
      go_simp
      refine ⟨_, fun _ _ => rfl, hK _ ?_⟩
      clear hK K
      iterate 2 (go_big_quiet_want; go_big_quiet_op; first | go_big_quiet_on | (apply Exists.intro; refine ⟨fun w' hw' => ?_, ?_⟩; (first | rfl | exact ⟨rfl, rfl⟩); go_big_quiet_on))
      refine wpQuiet_load_mid rfl 47 _ rfl g2 (off2 + k * 5) rfl (entC e vb) _ HR2.out Tryz.underlying47 rfl info38t ?_
      refine wpQuiet_step (fun K hK => ?_)
      go_simp
      refine ⟨_, fun w' hw' => (HA.out w' hw').mono fun _ _ hh => ⟨hh.1, Mods.trans hw' hh.2 (by simp)⟩, hK _ ?_⟩
      clear hK K
      refine wpQuiet_step (fun K hK => ?_)
      go_simp
      refine ⟨_, fun _ _ => rfl, hK _ ?_⟩
      clear hK K
      refine wpQuiet_nil ?_
      intro w5 hw5
      have HM5 := Lib.hid (HM.out.trans hw5 (by simp))
      clear hw5
      go_wp2_with fail
      exact ⟨⟨k + 1, by omega, rfl, HM5.out⟩, by simp only [intOf]; omega⟩
    · obtain rfl : k = L.length := by omega
      clear hm
      go_wp2_with fail
      go_ret
      exact ⟨rfl, HM.out⟩
end Go.Proofs.YtmcekhgmmocajaaGreatDoor
