/- The step written. -/
import Derived.Test.YtnpokdbpmnkbjaaGreatDoorCc
import Derived.Test.YtnpokdbpmnkbjaaGreatDoorOw
import Derived.Test.YtnpokdbpmnkbjaaGreatDoorZa
import Derived.Test.YtnpokdbpmnkbjaaGreatDoorZb
namespace Go.Proofs.YtnpokdbpmnkbjaaGreatDoor
open Go Go.RowKit Me

theorem info35z : (Tryz.prog.info? 35).map (·.size) = some 13 := by kernel_rfl
theorem IsW.same {T : TypeId} {w : World} {a : Nat} {S : WSt} {vb vo vb' vo' : Value} (h : IsW T w a S vb vo) (k : IsW T w a S vb' vo') : vb' = vb ∧ vo' = vo := by
  have e := h.cells.symm.trans k.cells
  simp at e
  exact ⟨e.1.symm, e.2.symm⟩
theorem Me.Post.wrAt {T : TypeId} {w w0 : World} {a : Nat} {S : WSt} {F : List Nat} {p : Pc} (h : Post p w0 F w) (e : Pc.Ent p (Wr T a S)) : ∃ vb vo, IsW T w a S vb vo := by
  obtain ⟨_, ⟨vb, vo, hw, -⟩, -⟩ := h.ent e
  exact ⟨vb, vo, hw⟩
/-- A call on the front piece, a writer whose blocks are new. -/
theorem Me.Post.wr0 {T : TypeId} {w w0 : World} {a : Nat} {S S' : WSt} {f : FuncId} {args : Array Value} {x : Value} {r : Pc} (h : Post ((Wr T a S).star r) w0 [] w)
    (hc : ∀ vb vo, IsW T w a S vb vo → (∀ k ∈ foot a vb vo, w0.heap.size ≤ k) → Calls Tryz.prog f args w fun e w' => e = .returned x ∧ WPost T w a vb vo S' w') :
    Calls Tryz.prog f args w fun e w' => e = .returned x ∧ Post ((Wr T a S').star r) w0 [] w' := by
  obtain ⟨F12, ⟨F1, F2, ⟨vb, vo, h1, rfl⟩, h2, h3, rfl⟩, h4, h5⟩ := id h
  refine h.call (Wr.call fun vb' vo' h' => hc vb' vo' h' fun k hk => ?_)
  obtain ⟨rfl, rfl⟩ := h1.same h'
  rcases h5 k (List.mem_append_left _ hk) with h | h
  · cases h
  · exact h
theorem BkQ.more (b n : Nat) : Pc.Ent (BkQ b n) (BkQ b (n + 1)) := fun w F ⟨I, J, hok, h⟩ => ⟨F, ⟨I, J, ⟨by have := hok.i; omega, by have := hok.j; omega, fun x hx => by have := hok.bi x hx; omega, fun x hx => by have := hok.bj x hx; omega⟩, h⟩, fun _ hk => hk⟩
theorem done_le {S : WSt} (h : S.Wf) : S.done.1.length ≤ 1000000000 := by
  have h1 := h.limit
  have h2 := h.bytes
  unfold WSt.done
  split
  · simp
  · split
    · simp
    · show S.bytes.length ≤ _
      omega
theorem Wr.new {T : TypeId} {w w0 w' : World} {a : Nat} {S : WSt} {p : Pc} (h : Post p w0 [] w) (hm : Mods [] w w') (hi : IsW T w' a S (.slice none 0 0) (.slice none 0 0)) (ha : w.heap.size ≤ a) : Post ((Wr T a S).star p) w0 [] w' :=
  h.add hm ⟨_, _, hi, rfl⟩ (by simp only [foot, Value.ownBlock]; simpa using ha)
set_option maxRecDepth 100000 in
set_option maxHeartbeats 1000000 in
theorem kwritten_any {w0 w : World} {b n : Nat} {R : Pc} (h : Post ((BkQ b n).star R) w0 [] w) (hn : n ≤ 1000000000) (hT : Lib.Utf8Tabs 0 1 w0) (lim : Int) (s t : StatP) (hs : s.Fits) (hz : s.size ≤ 268435456) (ht : t.Fits) (hzt : t.size ≤ 268435456) :
    Calls Tryz.prog 16 #[.pointer (some ⟨b, 0, none⟩), .int .i64 lim, .agg (statV s), .agg (statV t)] w fun e w' => e = .returned (.bool true) ∧ Post ((BkQ b (n + 1)).star R) w0 [] w' := by
  have hp0 := (h.alloc (.cells (statV s) 35)).alloc (.cells (statV t) 35)
  have H0 := Lib.hid hp0
  have HT0 := Lib.hid hT
  have HT2 := Lib.hid (tabs_two hT)
  have HS := Lib.hid hs
  have HTT := Lib.hid ht
  clear h hp0 hT hs ht
  go_enter Tryz.func16, Tryz.ntmps16
  by_cases hl : lim < 0 ∨ 16777216 < lim
  · have HN := Lib.hid (fun W => newWriter_bad lim W hl)
    have HV := Lib.hid (fun W => vnew_bad lim W hl)
    clear hl
    go_wp2_with fail
    refine (HN.out _).mono ?_; rintro e w1 ⟨rfl, rfl⟩
    go_wp2_with fail
    refine (HV.out _).mono ?_; rintro e w2 ⟨rfl, rfl⟩
    go_wp2_with fail
    go_ret
    exact ⟨rfl, H0.out.ent ((Pc.Ent.right _ _).trans ((Pc.Ent.right _ _).trans ((BkQ.more b n).mono (Pc.Ent.refl _))))⟩
  · obtain ⟨l, rfl⟩ : ∃ l : Nat, lim = (l : Int) := ⟨lim.toNat, by omega⟩
    have hl' : l ≤ 16777216 := by omega
    have HN := Lib.hid (fun W => newWriter_ok l W hl')
    have HV := Lib.hid (fun W => vnew_ok l W hl')
    clear hl
    go_upto_region 1 with fail
    generalize (w.alloc (.cells (statV s) 35)).alloc (.cells (statV t) 35) = w1 at *
    rw [World.size_alloc] at H0
    generalize w.heap.size + 1 = bt at *
    generalize w.heap.size = bs at *
    go_wp2_with fail
    refine (HN.out _).mono ?_; rintro e w2 ⟨rfl, hi, hm⟩
    have H2 := Lib.hid (Wr.new H0.out hm hi (Nat.le_refl _))
    generalize w1.heap.size = a at *
    clear hi hm H0
    go_wp2_with fail
    refine (HV.out _).mono ?_; rintro e w3 ⟨rfl, hi, hm⟩
    have H3 := Lib.hid (Wr.new H2.out hm hi (Nat.le_refl _))
    generalize w2.heap.size = c at *
    clear hi hm H2
    generalize WSt.new l = S0 at *
    have H := Lib.hid (H3.out.ent (Pc.Ent.swap _ _ _))
    go_wp2_with fail
    refine (H.out.wr0 (fun _ _ h hf => u8_any h 9 (by omega))).mono ?_; rintro e w4 ⟨rfl, hp⟩
    have H4 := Lib.hid hp
    clear H3 H hp
    have H := Lib.hid (H4.out.ent (Pc.Ent.swap _ _ _))
    go_wp2_with fail
    refine (H.out.wr0 (fun _ _ h hf => vu8_any h 9 (by omega))).mono ?_; rintro e w5 ⟨rfl, hp⟩
    have H5 := Lib.hid hp
    clear H4 H hp
    generalize S0.put (le 9 1) = S1 at *
    have H := Lib.hid (H5.out.ent (Pc.Ent.swap _ _ _))
    have HB := Lib.hid (H5.out.blkOf ((Pc.Ent.right _ _).trans ((Pc.Ent.right _ _).trans ((Pc.Ent.right _ _).trans (Pc.Ent.left _ _)))))
    go_wp2_with (refine wpList_load_row rfl 35 _ rfl bs rfl 35 (statV s) (0, 0) _ HB.out Tryz.underlying35 rfl info35z ?_)
    clear HB
    refine (H.out.wr0 (fun _ _ h hf => put_any h (fun k hk => Nat.le_trans HT2.out (hf k hk)) (tabs_mods H.out.mods HT0.out) s HS.out (by omega))).mono ?_; rintro e w6 ⟨rfl, hp⟩
    have H6 := Lib.hid hp
    clear H5 H hp
    have H := Lib.hid (H6.out.ent (Pc.Ent.swap _ _ _))
    have HB := Lib.hid (H6.out.blkOf ((Pc.Ent.right _ _).trans ((Pc.Ent.right _ _).trans ((Pc.Ent.right _ _).trans (Pc.Ent.left _ _)))))
    go_wp2_with (refine wpList_load_row rfl 35 _ rfl bs rfl 35 (statV s) (0, 0) _ HB.out Tryz.underlying35 rfl info35z ?_)
    clear HB
    refine (H.out.wr0 (fun _ _ h hf => rput_any h s HS.out (by omega))).mono ?_; rintro e w7 ⟨rfl, hp⟩
    have H7 := Lib.hid hp
    clear H6 H hp
    generalize S1.stat s = S2 at *
    have H := Lib.hid (H7.out.ent (Pc.Ent.swap _ _ _))
    have HB := Lib.hid (H7.out.blkOf ((Pc.Ent.right _ _).trans ((Pc.Ent.right _ _).trans (Pc.Ent.left _ _))))
    obtain ⟨-, -, c2, c3, c4, -, -, -, -, -, -, -, -⟩ := stat_cells HB.out
    go_wp2_with fail
    clear c2 c3 c4
    clear HB
    refine (H.out.wr0 (fun _ _ h hf => putQid_any h t.qid HTT.out.qid)).mono ?_; rintro e w8 ⟨rfl, hp⟩
    have H8 := Lib.hid hp
    clear H7 H hp
    have H := Lib.hid (H8.out.ent (Pc.Ent.swap _ _ _))
    have HB := Lib.hid (H8.out.blkOf ((Pc.Ent.right _ _).trans ((Pc.Ent.right _ _).trans (Pc.Ent.left _ _))))
    obtain ⟨-, -, c2, c3, c4, -, -, -, -, -, -, -, -⟩ := stat_cells HB.out
    go_wp2_with fail
    clear c2 c3 c4
    clear HB
    refine (H.out.wr0 (fun _ _ h hf => rputQid_any h t.qid HTT.out.qid)).mono ?_; rintro e w9 ⟨rfl, hp⟩
    have H9 := Lib.hid hp
    clear H8 H hp
    generalize S2.qid t.qid = S3 at *
    have H := Lib.hid (H9.out.ent (Pc.Ent.swap _ _ _))
    have HB := Lib.hid (H9.out.blkOf ((Pc.Ent.right _ _).trans ((Pc.Ent.right _ _).trans (Pc.Ent.left _ _))))
    go_wp2_with (refine wpList_load_row rfl 35 _ rfl bt rfl 35 (statV t) (0, 0) _ HB.out Tryz.underlying35 rfl info35z ?_)
    clear HB
    refine (H.out.wr0 (fun _ _ h hf => put_any h (fun k hk => Nat.le_trans HT2.out (hf k hk)) (tabs_mods H.out.mods HT0.out) t HTT.out (by omega))).mono ?_; rintro e w10 ⟨rfl, hp⟩
    have H10 := Lib.hid hp
    clear H9 H hp
    have H := Lib.hid (H10.out.ent (Pc.Ent.swap _ _ _))
    have HB := Lib.hid (H10.out.blkOf ((Pc.Ent.right _ _).trans ((Pc.Ent.right _ _).trans (Pc.Ent.left _ _))))
    go_wp2_with (refine wpList_load_row rfl 35 _ rfl bt rfl 35 (statV t) (0, 0) _ HB.out Tryz.underlying35 rfl info35z ?_)
    clear HB
    refine (H.out.wr0 (fun _ _ h hf => rput_any h t HTT.out (by omega))).mono ?_; rintro e w11 ⟨rfl, hp⟩
    have H11 := Lib.hid hp
    clear H10 H hp
    generalize S3.stat t = S4 at *
    obtain ⟨va, oa, hi⟩ := H11.out.wrAt ((Pc.Ent.right _ _).trans (Pc.Ent.left _ _))
    have HI := Lib.hid hi
    have HDL := Lib.hid (done_le hi.wf)
    clear hi
    go_wp2_with fail
    refine (len_any HI.out).mono ?_; rintro e w12 ⟨rfl, rfl⟩
    go_wp2_with fail
    refine (done_any HI.out).mono ?_; rintro e w12 ⟨v, rfl, ho, hm⟩
    have H12 := Lib.hid (H11.out.addRow hm ho)
    obtain ⟨Av, cv, rfl⟩ := own_ctor ho
    clear ho hm HI H11
    obtain ⟨vb, ob, hi⟩ := H12.out.wrAt ((Pc.Ent.right _ _).trans (Pc.Ent.left _ _))
    have HI := Lib.hid hi
    clear hi
    go_wp2_with fail
    refine (vdone_any HI.out).mono ?_; rintro e w13 ⟨u, rfl, ho, hm⟩
    have H13 := Lib.hid (H12.out.addRow hm ho)
    obtain ⟨Au, cu, rfl⟩ := own_ctor ho
    clear ho hm HI H12
    obtain ⟨vb, ob, hi⟩ := H13.out.wrAt ((Pc.Ent.right _ _).trans ((Pc.Ent.right _ _).trans (Pc.Ent.left _ _)))
    have HI := Lib.hid hi
    clear hi
    have hp := H13.out.ent ((Pc.Ent.swap _ _ _).trans ((Pc.Ent.refl _).mono (Pc.Ent.at6 _ _ _ _ _ _ _)))
    have HU := Lib.hid (Rd.of_own (H13.out.rowAt (Pc.Ent.left _ _)))
    have HP := Lib.hid hp
    have HVL := Lib.hid (vlen_any HI.out)
    clear hp HI
    generalize hD : S4.done.1 = D at *
    clear hD
    generalize hE : S4.done.2 = er at *
    clear hE
    generalize hL : S4.bytes.length = len at *
    clear hL
    have q1 := nat_ne_self len
    have q2 := nat_ne_self er
    go_wp2_with fail
    refine HVL.out.mono ?_; rintro e w14 ⟨rfl, rfl⟩
    go_wp2_with fail
    refine (BkQ.bytes HP.out HU.out HDL.out hn).mono ?_; rintro e w15 ⟨rfl, hp⟩
    have H15 := Lib.hid (hp.ent ((Pc.Ent.refl _).mono ((Pc.Ent.right _ _).trans ((Pc.Ent.right _ _).trans ((Pc.Ent.right _ _).trans ((Pc.Ent.right _ _).trans (Pc.Ent.right _ _)))))))
    clear hp
    go_wp2_with fail
    go_ret
    exact ⟨rfl, H15.out⟩
end Go.Proofs.YtnpokdbpmnkbjaaGreatDoor
