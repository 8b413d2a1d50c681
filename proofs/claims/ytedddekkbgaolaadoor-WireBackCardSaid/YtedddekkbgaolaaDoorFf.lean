/- finds: texts. -/
import Derived.Test.YtedddekkbgaolaaDoorFe
namespace Go.Proofs.YtedddekkbgaolaaDoor
open Go.RowKit Me
theorem RPost.then_still {T : TypeId} {w w1 w2 : World} {a : Nat} {vb : Value} {S : RSt} (h : RPost T w a vb S w1) (hm : Mods [] w1 w2) : RPost T w a vb S w2 := ⟨h.1.still hm, h.2.trans hm (fun _ hb => by cases hb)⟩
theorem beq_str (x y : List UInt8) : ((⟨x.toArray⟩ : ByteArray).toList == (⟨y.toArray⟩ : ByteArray).toList) = decide (x = y) := by
  rw [ByteArray.toList_eq, ByteArray.toList_eq]
  by_cases h : x = y
  · subst h
    simp
  · rw [decide_eq_false h, beq_eq_false_iff_ne]
    exact h
set_option maxRecDepth 100000 in
set_option maxHeartbeats 1000000 in
theorem finds6 {w : World} (hT : Lib.Utf8Tabs 0 1 w) {a : Nat} {S : RSt} {rb : Value} (h : IsR 130 w a S rb) (o : OpP) (hk : o.kind = 6) (ho : o.Fits) {vb : Value} (hb : Rd w vb (o.b.map byteV)) :
    Calls Tryd.prog 102 #[.pointer (some ⟨a, 0, none⟩), opV o vb] w (FindsPost w a rb (decide (S.text.1 = o.lets)) S.text.2) := by
  obtain ⟨A, c, hvb, -⟩ := hb
  rw [List.length_map] at hvb
  subst hvb
  have hos := ho.s
  obtain ⟨who, kind, n, k, b, s⟩ := o
  simp only [opV, OpP.lets] at *
  subst hk
  have HK := Lib.hid (fun (w' : World) (hm : Mods [] w w') => rtext_any (h.still hm) (tabs_keep (hm.toBelow (by simp)) hT))
  have HL : Hid (∀ w : World, Calls Tryd.prog 98 #[.string s] w fun e w' => e = .returned (.string ⟨(lettersL s.data.toList).toArray⟩) ∧ Mods [] w w') := Lib.hid fun w => letters_any s (by unfold maxLen; omega)
  have HA := Lib.hid (show a < w.heap.size from (Array.getElem?_eq_some_iff.1 h.cells).1)
  have HM := Lib.hid (fun (x : Obj) => ((Mods.refl [] w).alloc x).drew)
  have HQ := Lib.hid (beq_str S.text.1 (lettersL s.data.toList))
  generalize hTT : S.text = R at *
  generalize (⟨R.1.toArray⟩ : ByteArray) = X at *
  generalize (⟨(lettersL s.data.toList).toArray⟩ : ByteArray) = Y at *
  clear h hT ho hTT
  go_enter Tryd.func102, Tryd.ntmps102
  go_wp2_with fail
  go_region_with (first
    | (go_at_call 77; (first | refine (HK.out _ (HM.out _)).mono ?_ | refine (HK.out _ HM1.out).mono ?_); rintro e w1 ⟨rfl, hr⟩; (try have hc := box_behind HA.out hr.2 5 rfl); have HR := Lib.hid hr; clear hr; go_simp)
    | (go_at_call 98; refine (HL.out _).mono ?_; rintro e w2 ⟨rfl, hm⟩; (first | have HM1 := Lib.hid ((HM.out _).trans hm (fun _ hb => by cases hb)) | skip); have HM2 := Lib.hid hm; clear hm; go_simp))
  all_goals
    go_wp2_with fail
    go_ret
    refine ⟨congrArg (fun b => Ending.returned (Value.bool b)) HQ.out, ?_⟩
    first | exact RPost.behind HM1.out HR.out | exact RPost.behind (HM.out _) (HR.out.then_still HM2.out)
end Go.Proofs.YtedddekkbgaolaaDoor
