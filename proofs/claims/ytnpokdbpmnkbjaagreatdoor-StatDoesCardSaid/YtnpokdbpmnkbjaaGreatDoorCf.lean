/- The step taken. -/
import Derived.Test.YtnpokdbpmnkbjaaGreatDoorCc
import Derived.Test.YtnpokdbpmnkbjaaGreatDoorOw
import Derived.Test.YtnpokdbpmnkbjaaGreatDoorZb
import Derived.Laws.Tables
namespace Go.Proofs.YtnpokdbpmnkbjaaGreatDoor
open Go Go.RowKit Me

theorem info35y : (Tryz.prog.info? 35).map (·.size) = some 13 := by kernel_rfl
theorem RsP.add {T : TypeId} {w0 w w' : World} {p : Pc} {a n : Nat} {S : RSt} {vb : Value} {xs : List Value} (h : Post p w0 [] w) (hm : Mods [] w w') (hi : IsR T w' a S vb) (ho : w'.ownsRow w.heap.size 5 1 vb n xs) (ha : w.heap.size ≤ a) :
    Post ((RsP T [⟨a, S, vb⟩]).star p) w0 [] w' := by
  refine h.add (q := RsP T [⟨a, S, vb⟩]) (G := [a] ++ ownL [⟨a, S, vb⟩]) hm ⟨by simpa using hi, by simpa using fun k hk => ownsRow_lt ho k hk, by simpa using hi.na, by simp, rfl⟩ ?_
  intro k hk
  simp only [ownL, List.map_cons, List.map_nil, List.flatMap_cons, List.flatMap_nil, List.append_nil, List.mem_append, List.mem_singleton] at hk
  rcases hk with rfl | hk
  · exact ha
  · exact (ho.lt k (by simpa using hk)).1
/-- A call of the front piece, a reader whose blocks are new. -/
theorem Me.Post.rd0 {T : TypeId} {w0 w : World} {r : Pc} {a : Nat} {S S' : RSt} {vb : Value} {f : FuncId} {args : Array Value} {val : Value} (h : Post ((RsP T [⟨a, S, vb⟩]).star r) w0 [] w)
    (hc : IsR T w a S vb → (∀ k, vb.ownBlock = some k → k < w.heap.size) → w0.heap.size ≤ a → Calls Tryz.prog f args w fun e w' => e = .returned val ∧ RPost T w a vb S' w') :
    Calls Tryz.prog f args w fun e w' => e = .returned val ∧ Post ((RsP T [⟨a, S', vb⟩]).star r) w0 [] w' := by
  obtain ⟨F12, ⟨F1, F2, hF, h2, h3, rfl⟩, h4, h5⟩ := id h
  have ha : w0.heap.size ≤ a := by
    rcases h5 a (List.mem_append_left _ (by rw [hF.2.2.2.2]; simp)) with h | h
    · cases h
    · exact h
  exact RsP.call (k := 0) (x := ⟨a, S, vb⟩) h rfl fun hi => hc hi (fun k hk => hF.2.1 vb (by simp) k hk) ha
theorem Me.Post.rdAt {T : TypeId} {w0 w : World} {p : Pc} {F : List Nat} {a : Nat} {S : RSt} {vb : Value} (h : Post p w0 F w) (e : Pc.Ent p (RsP T [⟨a, S, vb⟩])) : IsR T w a S vb := by
  obtain ⟨_, hF, -⟩ := h.ent e
  exact hF.1 ⟨a, S, vb⟩ (by simp)
theorem row_set {g : Nat} {t : TypeId} {w : World} (old cs : Array Value) : ∀ F1, (Pc.blk g (.cells old t)).A w F1 → Post (Pc.blk g (.cells cs t)) w F1 (w.setRow g cs) := by
  rintro F1 ⟨h, rfl⟩
  exact ⟨[g], ⟨setRow_heap w g old cs t _ h, rfl⟩, ⟨rfl, rfl, rfl, by simp, fun k _ hk => setRow_other w g k cs (by simpa using hk)⟩, fun _ hk => Or.inl hk⟩
theorem statV_all (s : StatP) : (statV s).all (·.oneCell') = true := Array.all_eq_true_iff_forall_mem.2 (fun v hv => statV_one s v (by simpa using hv))
theorem qidV_one (q : QidP) : ∀ v ∈ (qidV q).toList, v.oneCell' = true := by
  intro v hv
  simp only [qidV, List.mem_cons, List.not_mem_nil, or_false] at hv
  rcases hv with h | h | h <;> (subst h; rfl)
theorem qid_cells {w : World} {b : Nat} {q : QidP} (h : w.heap[b]? = some (.cells (qidV q) 32 (0, 0))) :
    w.cell? ⟨b, 0, none⟩ = some (.int .u8 (q.kind : Int)) ∧ w.cell? ⟨b, 1, none⟩ = some (.int .u32 (q.vers : Int)) ∧ w.cell? ⟨b, 2, none⟩ = some (.int .u64 (q.path : Int)) := by
  refine ⟨?_, ?_, ?_⟩ <;> (rw [cell_of_row _ _ _ _ _ _ h]; rfl)
set_option maxRecDepth 100000 in
set_option maxHeartbeats 8000000 in
theorem ktaken_any {w : World} {vx : Value} (l : List UInt8) (hx : Rd w vx (l.map byteV)) (hl : l.length ≤ 268435456) (hT : Lib.Utf8Tabs 0 1 w) :
    Calls Tryz.prog 17 #[vx] w fun e w' => e = .returned (.bool true) ∧ Mods [] w w' := by
  have H0 : Hid (Post Pc.emp w [] w) := Lib.hid ⟨[], rfl, Mods.refl _ _, by simp⟩
  have HX := Lib.hid hx
  have HT0 := Lib.hid hT
  have HT2 := Lib.hid (tabs_two hT)
  obtain ⟨A, cx, rfl, -⟩ := rd_slice hx
  clear hx hT
  go_enter Tryz.func17, Tryz.ntmps17
  go_wp2_with fail
  refine (newReader_any l HX.out (by omega)).mono ?_; rintro e w1 ⟨a, va, rfl, hi, ho, ha, hm⟩
  have H1 := Lib.hid (RsP.add H0.out hm hi ho ha)
  have HX1 := Lib.hid (HX.out.mods hm (by simp))
  clear hm hi ho ha H0 HX
  go_wp2_with fail
  refine (qnew_any l HX1.out (by omega)).mono ?_; rintro e w2 ⟨c, vc, rfl, hi, ho, ha, hm⟩
  have H2 := Lib.hid (RsP.add H1.out hm hi ho ha)
  clear hm hi ho ha H1 HX1
  generalize RSt.new l = S0 at *
  have H := Lib.hid (H2.out.ent (Pc.Ent.swap _ _ _))
  go_wp2_with fail
  refine (H.out.rd0 (fun hi hv ha => take_any hi hv (Nat.le_trans HT2.out ha) (tabs_mods H.out.mods HT0.out))).mono ?_; rintro e w3 ⟨rfl, hp⟩
  have hp3 := hp.alloc (.cells (statV S0.stat.1) 35)
  have H3 := Lib.hid hp3
  have hstore := run_store_new (P := Tryz.prog) w3 zeroV (statV S0.stat.1) 35 rfl (statV_one _)
  unfold zeroV at hstore
  clear hp hp3 H H2
  go_wp2_with fail
  clear hstore
  generalize w3.alloc (.cells (statV S0.stat.1) 35) = w4 at *
  generalize w3.heap.size = b5 at *
  have H := Lib.hid (H3.out.ent (Pc.Ent.at3 _ _ _ _))
  refine (H.out.rd0 (fun hi hv ha => rtake_any hi hv)).mono ?_; rintro e w5 ⟨rfl, hp⟩
  have hp3 := hp.alloc (.cells (statV S0.stat.1) 35)
  have H5 := Lib.hid hp3
  have hstore := run_store_new (P := Tryz.prog) w5 zeroV (statV S0.stat.1) 35 rfl (statV_one _)
  unfold zeroV at hstore
  clear hp hp3 H H3
  go_wp2_with fail
  clear hstore
  generalize w5.alloc (.cells (statV S0.stat.1) 35) = w6 at *
  generalize w5.heap.size = b6 at *
  generalize S0.stat = SS at *
  obtain ⟨s1, S1⟩ := SS
  simp only at H5
  have HI := Lib.hid (H5.out.rdAt ((Pc.Ent.right _ _).trans ((Pc.Ent.right _ _).trans ((Pc.Ent.right _ _).trans (Pc.Ent.left _ _)))))
  have HQ := Lib.hid (H5.out.rdAt ((Pc.Ent.right _ _).trans (Pc.Ent.left _ _)))
  refine (at_any HI.out).mono ?_; rintro e w7 ⟨rfl, k7, rfl⟩
  have H7 := Lib.hid (H5.out.still ((Mods.refl [] w6).drewN k7))
  have HQ7 := Lib.hid (HQ.out.drewN k7)
  obtain ⟨c0, c1, c2, c3, c4, c5, c6, c7, c8, c9, c10, c11, c12⟩ := stat_cells (H7.out.blkOf (Pc.Ent.left _ _))
  obtain ⟨d0, d1, d2, d3, d4, d5, d6, d7, d8, d9, d10, d11, d12⟩ := stat_cells (H7.out.blkOf ((Pc.Ent.right _ _).trans ((Pc.Ent.right _ _).trans (Pc.Ent.left _ _))))
  clear HI HQ H5
  generalize w6.drewN k7 = w8 at *
  go_wp2_with fail
  clear c0 c1 c2 c3 c4 c5 c6 c7 c8 c9 c10 c11 c12 d0 d1 d2 d3 d4 d5 d6 d7 d8 d9 d10 d11 d12
  refine (qat_any HQ7.out).mono ?_; rintro e w9 ⟨rfl, k9, rfl⟩
  have H9 := Lib.hid (H7.out.still ((Mods.refl [] w8).drewN k9))
  generalize w8.drewN k9 = w10 at *
  have q1 := nat_ne_self (S1.base + S1.place)
  clear H7 HQ7
  go_wp2_with fail
  have H := Lib.hid (H9.out.ent (Pc.Ent.at4 _ _ _ _ _))
  refine (H.out.rd0 (fun hi hv ha => takeQid_any hi hv)).mono ?_; rintro e w11 ⟨rfl, hp⟩
  have hp3 := hp.alloc (.cells (qidV S1.qid.1) 32)
  have H11 := Lib.hid hp3
  have hstore := run_store_new (P := Tryz.prog) w11 #[.int .u8 0, .int .u32 0, .int .u64 0] (qidV S1.qid.1) 32 rfl (qidV_one _)
  clear hp hp3 H H9 q1
  go_wp2_with fail
  clear hstore
  generalize w11.alloc (.cells (qidV S1.qid.1) 32) = w12 at *
  generalize w11.heap.size = b8 at *
  have H := Lib.hid (H11.out.ent (Pc.Ent.at4 _ _ _ _ _))
  refine (H.out.rd0 (fun hi hv ha => rtakeQid_any hi hv)).mono ?_; rintro e w13 ⟨rfl, hp⟩
  have hp3 := hp.alloc (.cells (qidV S1.qid.1) 32)
  have H13 := Lib.hid hp3
  have hstore := run_store_new (P := Tryz.prog) w13 #[.int .u8 0, .int .u32 0, .int .u64 0] (qidV S1.qid.1) 32 rfl (qidV_one _)
  clear hp hp3 H H11
  go_wp2_with fail
  clear hstore
  generalize w13.alloc (.cells (qidV S1.qid.1) 32) = w14 at *
  generalize w13.heap.size = b9 at *
  generalize S1.qid = QQ at *
  obtain ⟨qq, S2⟩ := QQ
  simp only at H13
  have H := Lib.hid (H13.out.ent (Pc.Ent.at4 _ _ _ _ _))
  refine (H.out.rd0 (fun hi hv ha => take_any hi hv (Nat.le_trans HT2.out ha) (tabs_mods H.out.mods HT0.out))).mono ?_; rintro e w15 ⟨rfl, hp⟩
  have HB := Lib.hid (hp.blkOf ((Pc.Ent.right _ _).trans ((Pc.Ent.right _ _).trans ((Pc.Ent.right _ _).trans ((Pc.Ent.right _ _).trans ((Pc.Ent.right _ _).trans (Pc.Ent.left _ _)))))))
  have H15 := Lib.hid ((hp.ent (Pc.Ent.at6 _ _ _ _ _ _ _)).step (row_set _ (statV S2.stat.1)))
  clear hp H H13
  go_wp2_with (refine wpList_store_row rfl 35 _ _ rfl b5 (statV S2.stat.1) rfl rfl 35 (statV s1) HB.out info35y rfl (statV_all _) ?_)
  clear HB
  generalize w15.setRow b5 (statV S2.stat.1) = w16 at *
  have H := Lib.hid (H15.out.ent (Pc.Ent.at4 _ _ _ _ _))
  refine (H.out.rd0 (fun hi hv ha => rtake_any hi hv)).mono ?_; rintro e w17 ⟨rfl, hp⟩
  have HB := Lib.hid (hp.blkOf ((Pc.Ent.right _ _).trans ((Pc.Ent.right _ _).trans ((Pc.Ent.right _ _).trans ((Pc.Ent.right _ _).trans ((Pc.Ent.right _ _).trans (Pc.Ent.left _ _)))))))
  have H17 := Lib.hid ((hp.ent (Pc.Ent.at6 _ _ _ _ _ _ _)).step (row_set _ (statV S2.stat.1)))
  clear hp H H15
  go_wp2_with (refine wpList_store_row rfl 35 _ _ rfl b6 (statV S2.stat.1) rfl rfl 35 (statV s1) HB.out info35y rfl (statV_all _) ?_)
  clear HB
  generalize w17.setRow b6 (statV S2.stat.1) = w18 at *
  generalize S2.stat = SS at *
  obtain ⟨s3, S3⟩ := SS
  simp only at H17
  refine (err_any (H17.out.rdAt ((Pc.Ent.right _ _).trans ((Pc.Ent.right _ _).trans ((Pc.Ent.right _ _).trans (Pc.Ent.left _ _)))))).mono ?_; rintro e w19 ⟨rfl, k1, rfl⟩
  have H18 := Lib.hid (H17.out.still ((Mods.refl [] w18).drewN k1))
  generalize w18.drewN k1 = w19 at *
  clear H17
  go_wp2_with fail
  refine (qerr_any (H18.out.rdAt ((Pc.Ent.right _ _).trans (Pc.Ent.left _ _)))).mono ?_; rintro e w20 ⟨rfl, k2, rfl⟩
  have H19 := Lib.hid (H18.out.still ((Mods.refl [] w19).drewN k2))
  generalize w19.drewN k2 = w20 at *
  clear H18
  go_wp2_with fail
  refine (left_any (H19.out.rdAt ((Pc.Ent.right _ _).trans ((Pc.Ent.right _ _).trans ((Pc.Ent.right _ _).trans (Pc.Ent.left _ _)))))).mono ?_; rintro e w21 ⟨rfl, k3, rfl⟩
  have H21 := Lib.hid (H19.out.still ((Mods.refl [] w20).drewN k3))
  generalize w20.drewN k3 = w22 at *
  have HQ21 := Lib.hid (H21.out.rdAt ((Pc.Ent.right _ _).trans (Pc.Ent.left _ _)))
  clear H19
  obtain ⟨c0, c1, c2, c3, c4, c5, c6, c7, c8, c9, c10, c11, c12⟩ := stat_cells (H21.out.blkOf ((Pc.Ent.right _ _).trans ((Pc.Ent.right _ _).trans (Pc.Ent.left _ _))))
  obtain ⟨d0, d1, d2, d3, d4, d5, d6, d7, d8, d9, d10, d11, d12⟩ := stat_cells (H21.out.blkOf (Pc.Ent.left _ _))
  obtain ⟨e0, e1, e2⟩ := qid_cells (H21.out.blkOf ((Pc.Ent.right _ _).trans ((Pc.Ent.right _ _).trans ((Pc.Ent.right _ _).trans ((Pc.Ent.right _ _).trans ((Pc.Ent.right _ _).trans (Pc.Ent.left _ _)))))))
  obtain ⟨f0, f1, f2⟩ := qid_cells (H21.out.blkOf ((Pc.Ent.right _ _).trans ((Pc.Ent.right _ _).trans ((Pc.Ent.right _ _).trans ((Pc.Ent.right _ _).trans (Pc.Ent.left _ _))))))
  have q1 : (S3.err == S3.err) = true := by simp
  have q2 : ((S3.spot : Int) == (S3.spot : Int)) = true := by simp
  have q3 : ((S3.left : Int) == (S3.left : Int)) = true := by simp
  go_wp2_with fail
  refine (qleft_any HQ21.out).mono ?_; rintro e w23 ⟨rfl, k4, rfl⟩
  have H23 := Lib.hid (H21.out.still ((Mods.refl [] w22).drewN k4))
  generalize w22.drewN k4 = w23 at *
  clear c0 c1 c2 c3 c4 c5 c6 c7 c8 c9 c10 c11 c12 d0 d1 d2 d3 d4 d5 d6 d7 d8 d9 d10 d11 d12 e0 e1 e2 f0 f1 f2
  go_wp2_with fail
  go_ret
  exact ⟨rfl, H23.out.mods⟩
end Go.Proofs.YtnpokdbpmnkbjaaGreatDoor
