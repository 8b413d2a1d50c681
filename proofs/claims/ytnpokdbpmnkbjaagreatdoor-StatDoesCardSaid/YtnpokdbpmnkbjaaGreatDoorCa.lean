/- The law's Book: lists that came out; the walk of bytes. | The Book: the walk of stats. | The law's copied, room, over. -/
import Derived.Test.YtnpokdbpmnkbjaaGreatDoorOf
import Derived.Test.YtnpokdbpmnkbjaaGreatDoorPl
import Derived.Test.YtnpokdbpmnkbjaaGreatDoorBo
import Derived.Deep.RegionLaw
import Derived.Deep.CutBlock
import Derived.Deep.CutRange
import Derived.Laws.CopyOwn
import Derived.Laws.MakeOwn
namespace Go.Proofs.YtnpokdbpmnkbjaaGreatDoor
open Go.RowKit Me

namespace Me
theorem step_app {P : Program} {ops : Array Oper} {o : Oper} {a : Act} {w : World} {K : Act → World → Prop} {Q : Exit → Act → World → Prop} {E : Prop} (hgd : o.guard = none) (s x : Operand) (t tx : TypeId)
    (ho : o.op = .call { callee := .builtin .append, args := #[s, x], argTypes := #[t, tx] })
    (base : Nat) (e : TypeId) (i : TypeInfo) (z : Value) (size bytes : Nat) (ht : P.underlying t = some (.slice e)) (hi : P.info? e = some i) (hz : i.zero = some z)
    (hsize : i.size = size) (hby : i.bytes = bytes) (hzs : z.cells.size = size)
    (v : Value) (n : Nat) (xs : List Value) (hs : a.eval s = v) (hown : w.ownsRow base e size v n xs)
    (vx : Value) (m : Nat) (news : List Value) (hx : a.eval x = vx) (hsrc : Src P size tx vx m news w)
    (h63 : n + m ≤ maxLen) (hbytes : (n + m) * bytes ≤ 140737488355328) (hbase : base ≤ w.heap.size)
    (h : ∀ v' w', w'.ownsRow base e size v' (n + m) (xs ++ news) → w.grownBy w' v.ownBlock → (v'.ownBlock = v.ownBlock ∨ v'.ownBlock = some w.heap.size) → K (a.put o.dst v') w') :
    if Region.wanted o (yielded ops a.tmps) = true then Oper.wp P o a w K Q else E := by
  have hw : Region.wanted o (yielded ops a.tmps) = true := by simp [Region.wanted, hgd]
  rw [if_pos hw]
  obtain ⟨v', w', hr, h2, h3, h4⟩ := run_app (P := P) w base t tx o.type e i z size bytes ht hi hz hsize hby hzs v n xs hown vx m news hsrc h63 hbytes hbase
  unfold Oper.wp execOp
  simp only [ho, resolve, invoke, builtin, Sem.run_bind, Sem.run_pure, Result.andThen_ok, List.map_toArray, List.map_cons, List.map_nil, hs, hx, hr]
  exact h v' w' h2 h3 h4
theorem Pc.Ent.at4 (p q r s t : Pc) : Pc.Ent (p.star (q.star (r.star (s.star t)))) (s.star (p.star (q.star (r.star t)))) := ((Pc.Ent.refl p).mono (Pc.Ent.at3 q r s t)).trans (Pc.Ent.swap p s _)
theorem Pc.Ent.at5 (p q r s t u : Pc) : Pc.Ent (p.star (q.star (r.star (s.star (t.star u))))) (t.star (p.star (q.star (r.star (s.star u))))) := ((Pc.Ent.refl p).mono (Pc.Ent.at4 q r s t u)).trans (Pc.Ent.swap p t _)
end Me
theorem conv_rd {w : World} {v : Value} {l : List UInt8} (h : Rd w v (l.map byteV)) : (convert 37 9 v).run Tryz.prog w = .ok (.string ⟨l.toArray⟩) w := by
  obtain ⟨A, c, hv, -, -, h3⟩ := h
  rw [List.length_map] at hv
  subst hv
  rcases A with _ | ad
  · have hl0 : l = [] := by
      rcases l with _ | ⟨x, l⟩
      · rfl
      · obtain ⟨g, off, e2, -⟩ := h3 0 (byteV x) rfl
        cases e2
    subst hl0
    exact Lib.run_convert_nil_bytes w 37 9 5 c Tryz.underlying37 Tryz.underlying5 Tryz.underlying9
  · rcases l with _ | ⟨x, l⟩
    · have h := run_convert_bytes_string (P := Tryz.prog) w 37 9 5 (some ad) 0 c Tryz.underlying37 Tryz.underlying5 Tryz.underlying9
      show (convert 37 9 (.slice (some ad) 0 c)).run Tryz.prog w = _
      rw [h]
      rfl
    · obtain ⟨g, off, e2, -⟩ := h3 0 (byteV x) rfl
      cases e2
      exact conv_bytes c (x :: l) (fun j b hj => by
        obtain ⟨g', off', e3, h4⟩ := h3 j (byteV b) (by rw [List.getElem?_map, hj]; rfl)
        cases e3
        exact h4)
theorem info37 : (Tryz.prog.info? 37).map (fun i => (i.zero, i.size, i.bytes)) = some (some (.slice none 0 0), 1, 24) := by kernel_rfl
theorem info38 : (Tryz.prog.info? 38).map (fun i => (i.zero, i.size, i.bytes)) = some (some (.slice none 0 0), 1, 24) := by kernel_rfl
/-- A list that came out, and its copy. -/
structure It where
  v : Value
  u : Value
  bs : List UInt8
def itemP (x : It) : Pc := (rowOf x.v x.bs).star (rowOf x.u x.bs)
def items : List It → Pc
  | [] => Pc.emp
  | x :: I => (itemP x).star (items I)
theorem items_snoc : ∀ (I : List It) (x : It), Pc.Ent ((itemP x).star (items I)) (items (I ++ [x]))
  | [], _ => Pc.Ent.refl _
  | _ :: I, x => (Pc.Ent.swap _ _ _).trans ((Pc.Ent.refl _).mono (items_snoc I x))
/-- A list of records. -/
def rowS (v : Value) (L : List StatP) : Pc := Pc.row 35 13 v L.length (flatT L)
structure Is where
  v : Value
  u : Value
  L : List StatP
def itemS (x : Is) : Pc := (rowS x.v x.L).star (rowS x.u x.L)
def itemsS : List Is → Pc
  | [] => Pc.emp
  | x :: I => (itemS x).star (itemsS I)
theorem itemsS_snoc : ∀ (I : List Is) (x : Is), Pc.Ent ((itemS x).star (itemsS I)) (itemsS (I ++ [x]))
  | [], _ => Pc.Ent.refl _
  | _ :: I, x => (Pc.Ent.swap _ _ _).trans ((Pc.Ent.refl _).mono (itemsS_snoc I x))
/-- The Book's cells. -/
def BkC (b : Nat) (vb vc vs vt : Value) : Pc := Pc.blk b (.cells #[vb, vc, vs, vt] 28)
def BkB (b : Nat) (vs vt : Value) (I : List It) : Pc :=
  Pc.ex fun vb => Pc.ex fun vc => (BkC b vb vc vs vt).star ((Pc.row 37 1 vb I.length (I.map It.v)).star ((Pc.row 37 1 vc I.length (I.map It.u)).star (items I)))
def BkS (b : Nat) (vb vc : Value) (J : List Is) : Pc :=
  Pc.ex fun vs => Pc.ex fun vt => (BkC b vb vc vs vt).star ((Pc.row 38 1 vs J.length (J.map Is.v)).star ((Pc.row 38 1 vt J.length (J.map Is.u)).star (itemsS J)))
theorem bcell4 {w : World} {a : Nat} {x0 x1 x2 x3 : Value} {T : TypeId} (h : w.heap[a]? = some (.cells #[x0, x1, x2, x3] T (0, 0))) :
    w.cell? ⟨a, 0, none⟩ = some x0 ∧ w.cell? ⟨a, 1, none⟩ = some x1 ∧ w.cell? ⟨a, 2, none⟩ = some x2 ∧ w.cell? ⟨a, 3, none⟩ = some x3 ∧
    w.frozen? ⟨a, 0, none⟩ = false ∧ w.frozen? ⟨a, 1, none⟩ = false ∧ w.frozen? ⟨a, 2, none⟩ = false ∧ w.frozen? ⟨a, 3, none⟩ = false := by
  refine ⟨?_, ?_, ?_, ?_, frozen_of_row _ _ _ _ _ h, frozen_of_row _ _ _ _ _ h, frozen_of_row _ _ _ _ _ h, frozen_of_row _ _ _ _ _ h⟩ <;> (rw [cell_of_row _ _ _ _ _ _ h]; rfl)
set_option maxRecDepth 100000 in
set_option maxHeartbeats 1000000 in
theorem bytes_any {w : World} {b : Nat} {vs vt v vw : Value} {I : List It} {bs : List UInt8} {F : List Nat} (h : ((rowOf v bs).star (BkB b vs vt I)).A w F) (hw : Rd w vw (bs.map byteV)) (hl : bs.length ≤ 1000000000) (hI : I.length ≤ 1000000000) :
    Calls Tryz.prog 24 #[.pointer (some ⟨b, 0, none⟩), v, vw] w fun e w' => e = .returned (.bool true) ∧ Post (Pc.ex fun u => BkB b vs vt (I ++ [⟨v, u, bs⟩])) w F w' := by
  have hex : ∃ vb vc, ((rowOf v bs).star ((BkC b vb vc vs vt).star ((Pc.row 37 1 vb I.length (I.map It.v)).star ((Pc.row 37 1 vc I.length (I.map It.u)).star (items I))))).A w F := by
    obtain ⟨F1, F2, h1, ⟨vb, vc, h2⟩, h3, h4⟩ := h
    exact ⟨vb, vc, F1, F2, h1, h2, h3, h4⟩
  clear h
  obtain ⟨vb, vc, h⟩ := hex
  have hp := Post.start h
  have H0 := Lib.hid hp
  obtain ⟨c0, c1, -, -, f0, f1, -, -⟩ := bcell4 (hp.blkOf ((Pc.Ent.right _ _).trans (Pc.Ent.left _ _)))
  have hv := hp.rowAt (Pc.Ent.left _ _)
  have hf := hp.rowAt ((Pc.Ent.right _ _).trans ((Pc.Ent.right _ _).trans (Pc.Ent.left _ _)))
  have hcv := conv_rd (Rd.of_own hv)
  have hcw := conv_rd hw
  obtain ⟨Aw, cw, rfl, -⟩ := rd_slice hw
  obtain ⟨Av, cv, rfl⟩ := own_ctor hv
  obtain ⟨Af, cf, rfl⟩ := own_ctor hf
  have HV := Lib.hid hv
  have HF := Lib.hid hf
  clear h hp hv hf hw
  obtain ⟨i0, hi, hz0, hz1, hz2⟩ := info_parts info5
  obtain ⟨i1, hj, hy0, hy1, hy2⟩ := info_parts info37
  go_enter Tryz.func24, Tryz.ntmps24
  go_upto_region 4 with fail
  clear hcv hcw
  go_wp2_with (first | (at_builtin; go_must (refine wpList_app _ rfl _ _ 25 25 rfl 0 37 i1 (.slice none 0 0) 1 24 Tryz.underlying25 hj hy0 hy1 hy2 rfl _ _ _ rfl (HF.out.alloc _) _ 1 [.slice Av bs.length cv] rfl ?c1 ?c2 ?c3 ?c4 ?_)))
  case c1 => exact src_one Tryz.underlying25 _ _ _ rfl
  case c2 => unfold maxLen; omega
  case c3 => omega
  case c4 => exact Nat.zero_le _
  intro v2 w2 hown hgrow hat
  have hp2 := (((H0.out.ent (Pc.Ent.at3 _ _ _ _)).step (row_turn hown hgrow (by simpa using hat))).ent (Pc.Ent.at3 _ _ _ _))
  obtain ⟨d0, -, -, -, g0, -, -, -⟩ := bcell4 (hp2.blkOf (Pc.Ent.left _ _))
  obtain ⟨A2, c2, rfl⟩ := own_ctor hown
  have hp3 := hp2.step (blk_turn (i := 0) (.slice A2 (I.length + 1) c2))
  have H3 : Hid (Post ((BkC b (.slice A2 (I.length + 1) c2) vc vs vt).star _) w F (w2.setCell ⟨b, 0, none⟩ (.slice A2 (I.length + 1) c2))) := Lib.hid hp3
  clear hown hgrow hat hp2 hp3 c0 c1 f0 f1 HF
  go_upto_region 5 with fail
  clear d0 g0
  generalize w2.setCell ⟨b, 0, none⟩ (.slice A2 (I.length + 1) c2) = w3 at *
  have hp3 := H3.out.still (w' := w3.drew) (Mods.refl [] w3).drew
  have HP3 := Lib.hid hp3
  have HV3 := Lib.hid (hp3.rowAt ((Pc.Ent.right _ _).trans ((Pc.Ent.right _ _).trans (Pc.Ent.left _ _))))
  have hc3 := hp3.rowAt ((Pc.Ent.right _ _).trans ((Pc.Ent.right _ _).trans ((Pc.Ent.right _ _).trans (Pc.Ent.left _ _))))
  obtain ⟨Ac, cc, rfl⟩ := own_ctor hc3
  obtain ⟨k0, k1, -, -, l0, l1, -, -⟩ := bcell4 (hp3.blkOf (Pc.Ent.left _ _))
  clear H3 hp3 hc3 HV H0
  go_region_law (first
    | (refine step_app rfl _ _ 25 25 rfl 0 37 i1 (.slice none 0 0) 1 24 Tryz.underlying25 hj hy0 hy1 hy2 rfl (.slice Ac I.length cc) I.length (I.map It.u) rfl (HC5.out.alloc _) (.slice (some ⟨w5.heap.size, 0, none⟩) 1 1) 1 [.slice A5 bs.length c5] rfl (src_one Tryz.underlying25 _ _ _ rfl) (by unfold maxLen; omega) (by omega) (Nat.zero_le _) ?_; intro vc2 w6 hown hgrow hat; have hp6 := ((HP5.out.ent (Pc.Ent.at5 _ _ _ _ _ _)).step (row_turn hown hgrow (by simpa using hat))).ent (Pc.Ent.at3 _ _ _ _); have HP6 := Lib.hid hp6; obtain ⟨A6, c6, rfl⟩ := own_ctor hown; obtain ⟨-, n1, -, -, -, o1, -, -⟩ := bcell4 (hp6.blkOf (Pc.Ent.left _ _)); clear hown hgrow hat hp6)
    | (refine step_app rfl _ _ 37 37 rfl w3.drew.heap.size 5 i0 (.int .u8 0) 1 1 Tryz.underlying37 hi hz0 hz1 hz2 rfl (.slice none 0 0) 0 [] rfl (World.ownsRow_nil _ _ _ _) (.slice Av bs.length cv) bs.length (bs.map byteV) rfl (src_own Tryz.underlying37 HV3.out (bytes_one _)) (by unfold maxLen; omega) (by omega) (Nat.le_refl _) ?_; intro u w5 hown hgrow hat; simp only [Nat.zero_add, List.nil_append] at hown; have hp5 := HP3.out.add (q := rowOf u bs) ((Mods.refl [] w3.drew).grown hgrow (by simp [Value.ownBlock])) ⟨ownsRow_base (by simpa using hown) (Nat.zero_le _), rfl⟩ (fun k hk => (hown.lt k (by simpa using hk)).1); have HP5 := Lib.hid hp5; have HC5 := Lib.hid (hp5.rowAt ((Pc.Ent.at5 _ _ _ _ _ _).trans (Pc.Ent.left _ _))); obtain ⟨A5, c5, rfl⟩ := own_ctor hown; obtain ⟨-, m1, -, -, -, m1', -, -⟩ := bcell4 (hp5.blkOf ((Pc.Ent.right _ _).trans (Pc.Ent.left _ _))); have m1a : (w5.alloc (.cells #[.slice A5 bs.length c5] 37)).cell? ⟨b, 1, none⟩ = some (.slice Ac I.length cc) := (by rw [((Mods.refl [] w5).alloc _).cell (World.block_lt_of_cell? _ _ m1) (by simp)]; exact m1); clear hown hgrow hat hp5))
  all_goals
    have hp7 := HP6.out.step (blk_turn (i := 1) (.slice A6 (I.length + 1) c6))
    have hp8 : Post ((BkC b (.slice A2 (I.length + 1) c2) (.slice A6 (I.length + 1) c6) vs vt).star ((Pc.row 37 1 (.slice A2 (I.length + 1) c2) (I.length + 1) (I.map It.v ++ [.slice Av bs.length cv])).star
      ((Pc.row 37 1 (.slice A6 (I.length + 1) c6) (I.length + 1) (I.map It.u ++ [.slice A5 bs.length c5])).star (items (I ++ [⟨.slice Av bs.length cv, .slice A5 bs.length c5, bs⟩]))))) w F _ :=
      hp7.ent ((Pc.Ent.refl _).mono ((Pc.Ent.at3 _ _ _ _).trans ((Pc.Ent.refl _).mono ((Pc.Ent.refl _).mono (((Pc.Ent.swap _ _ _).trans (Pc.Ent.assoc' _ _ _)).trans (items_snoc I ⟨.slice Av bs.length cv, .slice A5 bs.length c5, bs⟩))))))
    have hp9 : Post (Pc.ex fun u => BkB b vs vt (I ++ [⟨.slice Av bs.length cv, u, bs⟩])) w F _ := hp8.ent (Pc.Ent.to (.slice A5 bs.length c5) (Pc.Ent.to (.slice A2 (I.length + 1) c2) (Pc.Ent.to (.slice A6 (I.length + 1) c6) (by simpa using Pc.Ent.refl _))))
    have H9 := Lib.hid hp9
    clear hp7 hp8 hp9
    go_wp2_with fail
    go_ret
    exact ⟨rfl, H9.out⟩
end Go.Proofs.YtnpokdbpmnkbjaaGreatDoor
namespace Go.Proofs.YtnpokdbpmnkbjaaGreatDoor
open Go.RowKit Me

theorem flatT_one (L : List StatP) : ∀ u ∈ flatT L, u.oneCell' = true := by
  intro u hu
  unfold flatT at hu
  obtain ⟨s, -, hs⟩ := List.mem_flatMap.1 hu
  exact statV_one s u hs
set_option maxRecDepth 100000 in
set_option maxHeartbeats 1000000 in
theorem stats_any {w : World} {b : Nat} {vb vc v vw : Value} {J : List Is} {L : List StatP} {F : List Nat} (h : ((rowS v L).star (BkS b vb vc J)).A w F) (hw : Sts w vw L) (hl : L.length ≤ 1000000000) (hI : J.length ≤ 1000000000) :
    Calls Tryz.prog 32 #[.pointer (some ⟨b, 0, none⟩), v, vw] w fun e w' => e = .returned (.bool true) ∧ Post (Pc.ex fun u => BkS b vb vc (J ++ [⟨v, u, L⟩])) w F w' := by
  have hex : ∃ vs vt, ((rowS v L).star ((BkC b vb vc vs vt).star ((Pc.row 38 1 vs J.length (J.map Is.v)).star ((Pc.row 38 1 vt J.length (J.map Is.u)).star (itemsS J))))).A w F := by
    obtain ⟨F1, F2, h1, ⟨vs, vt, h2⟩, h3, h4⟩ := h
    exact ⟨vs, vt, F1, F2, h1, h2, h3, h4⟩
  clear h
  obtain ⟨vs, vt, h⟩ := hex
  have hp := Post.start h
  have H0 := Lib.hid hp
  have hv := hp.rowAt (Pc.Ent.left _ _)
  have hal := alike_same L (Sts.of_own hv rfl) hw hl
  have HAL := Lib.hid hal
  obtain ⟨Av, cv, rfl⟩ := own_ctor hv
  clear h hp hv hw hal
  obtain ⟨i0, hi, hz0, hz1, hz2⟩ := info_parts info90'
  obtain ⟨i1, hj, hy0, hy1, hy2⟩ := info_parts info38
  go_enter Tryz.func32, Tryz.ntmps32
  go_wp2_with fail
  refine HAL.out.mono ?_; rintro e w1 ⟨rfl, hm⟩
  have hp1 := H0.out.still hm
  have H1 := Lib.hid hp1
  have hf := hp1.rowAt ((Pc.Ent.right _ _).trans ((Pc.Ent.right _ _).trans (Pc.Ent.left _ _)))
  obtain ⟨Af, cf, rfl⟩ := own_ctor hf
  have HF := Lib.hid hf
  obtain ⟨-, -, c0, c1, -, -, f0, f1⟩ := bcell4 (hp1.blkOf ((Pc.Ent.right _ _).trans (Pc.Ent.left _ _)))
  clear hm hp1 hf H0 HAL
  go_wp2_with (first | (at_builtin; go_must (refine wpList_app _ rfl _ _ 26 26 rfl 0 38 i1 (.slice none 0 0) 1 24 Tryz.underlying26 hj hy0 hy1 hy2 rfl _ _ _ rfl (HF.out.alloc _) _ 1 [.slice Av L.length cv] rfl ?c1 ?c2 ?c3 ?c4 ?_)))
  case c1 => exact src_one Tryz.underlying26 _ _ _ rfl
  case c2 => unfold maxLen; omega
  case c3 => omega
  case c4 => exact Nat.zero_le _
  intro v2 w2 hown hgrow hat
  have hp2 := (((H1.out.ent (Pc.Ent.at3 _ _ _ _)).step (row_turn hown hgrow (by simpa using hat))).ent (Pc.Ent.at3 _ _ _ _))
  obtain ⟨-, -, d0, -, -, -, g0, -⟩ := bcell4 (hp2.blkOf (Pc.Ent.left _ _))
  obtain ⟨A2, c2, rfl⟩ := own_ctor hown
  have hp3 := hp2.step (blk_turn (i := 2) (.slice A2 (J.length + 1) c2))
  have H3 : Hid (Post ((BkC b vb vc (.slice A2 (J.length + 1) c2) vt).star _) w F (w2.setCell ⟨b, 2, none⟩ (.slice A2 (J.length + 1) c2))) := Lib.hid hp3
  clear hown hgrow hat hp2 hp3 c0 c1 f0 f1 HF
  go_upto_region 6 with fail
  clear d0 g0
  generalize w2.setCell ⟨b, 2, none⟩ (.slice A2 (J.length + 1) c2) = w3 at *
  have hp3 := H3.out.still (w' := w3.drew) (Mods.refl [] w3).drew
  have HP3 := Lib.hid hp3
  have HV3 := Lib.hid (hp3.rowAt ((Pc.Ent.right _ _).trans ((Pc.Ent.right _ _).trans (Pc.Ent.left _ _))))
  have hc3 := hp3.rowAt ((Pc.Ent.right _ _).trans ((Pc.Ent.right _ _).trans ((Pc.Ent.right _ _).trans (Pc.Ent.left _ _))))
  obtain ⟨Ac, cc, rfl⟩ := own_ctor hc3
  obtain ⟨-, -, k0, k1, -, -, l0, l1⟩ := bcell4 (hp3.blkOf (Pc.Ent.left _ _))
  clear H3 hp3 hc3 H1
  go_region_law (first
    | (refine step_app rfl _ _ 26 26 rfl 0 38 i1 (.slice none 0 0) 1 24 Tryz.underlying26 hj hy0 hy1 hy2 rfl (.slice Ac J.length cc) J.length (J.map Is.u) rfl (HC5.out.alloc _) (.slice (some ⟨w5.heap.size, 0, none⟩) 1 1) 1 [.slice A5 L.length c5] rfl (src_one Tryz.underlying26 _ _ _ rfl) (by unfold maxLen; omega) (by omega) (Nat.zero_le _) ?_; intro vc2 w6 hown hgrow hat; have hp6 := ((HP5.out.ent (Pc.Ent.at5 _ _ _ _ _ _)).step (row_turn hown hgrow (by simpa using hat))).ent (Pc.Ent.at3 _ _ _ _); have HP6 := Lib.hid hp6; obtain ⟨A6, c6, rfl⟩ := own_ctor hown; obtain ⟨-, -, -, n1, -, -, -, o1⟩ := bcell4 (hp6.blkOf (Pc.Ent.left _ _)); clear hown hgrow hat hp6)
    | (refine step_app rfl _ _ 38 38 rfl w3.drew.heap.size 35 i0 (.agg zeroV) 13 112 Tryz.underlying38 hi hz0 hz1 hz2 rfl (.slice none 0 0) 0 [] rfl (World.ownsRow_nil _ _ _ _) (.slice Av L.length cv) L.length (flatT L) rfl (src_own Tryz.underlying38 HV3.out (flatT_one L)) (by unfold maxLen; omega) (by omega) (Nat.le_refl _) ?_; intro u w5 hown hgrow hat; simp only [Nat.zero_add, List.nil_append] at hown; have hp5 := HP3.out.add (q := rowS u L) ((Mods.refl [] w3.drew).grown hgrow (by simp [Value.ownBlock])) ⟨ownsRow_base (by simpa using hown) (Nat.zero_le _), rfl⟩ (fun k hk => (hown.lt k (by simpa using hk)).1); have HP5 := Lib.hid hp5; have HC5 := Lib.hid (hp5.rowAt ((Pc.Ent.at5 _ _ _ _ _ _).trans (Pc.Ent.left _ _))); obtain ⟨A5, c5, rfl⟩ := own_ctor hown; obtain ⟨-, -, -, m1, -, -, -, m1'⟩ := bcell4 (hp5.blkOf ((Pc.Ent.right _ _).trans (Pc.Ent.left _ _))); have m1a : (w5.alloc (.cells #[.slice A5 L.length c5] 38)).cell? ⟨b, 3, none⟩ = some (.slice Ac J.length cc) := (by rw [((Mods.refl [] w5).alloc _).cell (World.block_lt_of_cell? _ _ m1) (by simp)]; exact m1); clear hown hgrow hat hp5))
  all_goals
    have hp7 := HP6.out.step (blk_turn (i := 3) (.slice A6 (J.length + 1) c6))
    have hp8 : Post ((BkC b vb vc (.slice A2 (J.length + 1) c2) (.slice A6 (J.length + 1) c6)).star ((Pc.row 38 1 (.slice A2 (J.length + 1) c2) (J.length + 1) (J.map Is.v ++ [.slice Av L.length cv])).star
      ((Pc.row 38 1 (.slice A6 (J.length + 1) c6) (J.length + 1) (J.map Is.u ++ [.slice A5 L.length c5])).star (itemsS (J ++ [⟨.slice Av L.length cv, .slice A5 L.length c5, L⟩]))))) w F _ :=
      hp7.ent ((Pc.Ent.refl _).mono ((Pc.Ent.at3 _ _ _ _).trans ((Pc.Ent.refl _).mono ((Pc.Ent.refl _).mono (((Pc.Ent.swap _ _ _).trans (Pc.Ent.assoc' _ _ _)).trans (itemsS_snoc J ⟨.slice Av L.length cv, .slice A5 L.length c5, L⟩))))))
    have hp9 : Post (Pc.ex fun u => BkS b vb vc (J ++ [⟨.slice Av L.length cv, u, L⟩])) w F _ := hp8.ent (Pc.Ent.to (.slice A5 L.length c5) (Pc.Ent.to (.slice A2 (J.length + 1) c2) (Pc.Ent.to (.slice A6 (J.length + 1) c6) (by simpa using Pc.Ent.refl _))))
    have H9 := Lib.hid hp9
    clear hp7 hp8 hp9
    go_wp2_with fail
    go_ret
    exact ⟨rfl, H9.out⟩
end Go.Proofs.YtnpokdbpmnkbjaaGreatDoor
namespace Go.Proofs.YtnpokdbpmnkbjaaGreatDoor
open Go.RowKit Me

theorem made_one (z : Value) (n : Nat) : madeCells #[z] n = Array.replicate n z := by
  apply Array.ext
  · simp [madeCells]
  · intro i h1 h2
    simp [madeCells, Nat.mod_one]
theorem mark_at (l : List UInt8) (M : List Value) (i : Nat) (v : Value) (h : M[i]? = some v) : (l.map byteV ++ M).toArray[l.length + i]? = some v := by
  rw [List.getElem?_toArray, List.getElem?_append_right (by simp), List.length_map, show l.length + i - l.length = i by omega]
  exact h
theorem mark_set (l : List UInt8) (k i : Nat) (hk : k = l.length + i) (M : List Value) (v : Value) (M' : List Value) (h : M.set i v = M') : (l.map byteV ++ M).toArray.setIfInBounds k v = (l.map byteV ++ M').toArray := by
  subst h
  subst hk
  rw [List.setIfInBounds_toArray, List.set_append, if_neg (by simp), List.length_map, show l.length + i - l.length = i by omega]
set_option maxRecDepth 100000 in
set_option maxHeartbeats 1000000 in
theorem copied_any {w : World} {vx : Value} (l : List UInt8) (hx : Rd w vx (l.map byteV)) (hl : l.length ≤ 1000000000) :
    Calls Tryz.prog 25 #[vx] w fun e w' => ∃ g, e = .returned (.slice (some ⟨g, 0, none⟩) l.length (l.length + 3)) ∧ w.heap.size ≤ g ∧ w'.heap[g]? = some (.cells ((l ++ [201, 202, 203]).map byteV).toArray 5 (0, 0)) ∧ Mods [] w w' := by
  have HX := Lib.hid hx
  obtain ⟨A, c, rfl, hc1, hc2⟩ := rd_slice hx
  clear hx
  have s1 : IntKind.i64.wrap ((l.length : Int) + 3) = (l.length : Int) + 3 := IntWalk.i64_in _ (by omega)
  obtain ⟨i0, hi, hz0, hz1, hz2⟩ := info_parts info5
  go_enter Tryz.func25, Tryz.ntmps25
  have hmk := run_make (P := Tryz.prog) w 37 5 i0 (.int .u8 0) Tryz.underlying37 hi hz0 .i64 .i64 (l.length : Int) ((l.length : Int) + 3) (by omega) (by omega) (by rw [hz2]; omega) (by omega)
  rw [hz1, Nat.mul_one, show ((l.length : Int) + 3).toNat = l.length + 3 by omega, show ((l.length : Int)).toNat = l.length by omega, show (Value.int .u8 0).cells = #[.int .u8 0] from rfl, made_one] at hmk
  have HX1 := Lib.hid (HX.out.mods ((Mods.refl [] w).alloc (.cells (Array.replicate (l.length + 3) (.int .u8 0)) 5)) (by simp))
  have HB1 := Lib.hid (heap_alloc_new w (.cells (Array.replicate (l.length + 3) (.int .u8 0)) 5))
  have HM1 := Lib.hid (((Below.refl w.heap.size w)).alloc (Nat.le_refl _) (.cells (Array.replicate (l.length + 3) (.int .u8 0)) 5))
  go_upto_region 2 with fail
  clear hmk
  have HI1 : Hid ((Tryz.prog.info? 5).map (·.size) = some 1) := Lib.hid (by rw [hi]; simp [hz1])
  generalize hw1 : w.alloc (.cells (Array.replicate (l.length + 3) (.int .u8 0)) 5) = w1 at *
  generalize hg : w.heap.size = g at *
  rw [← List.toArray_replicate] at HB1
  go_wp2_with (refine wpList_copy_splice rfl (.tmp 11) (.tmp 12) 37 37 rfl 5 Tryz.underlying37 HI1.out (some ⟨g, 0, none⟩) A l.length (l.length + 3) l.length c rfl rfl g 0 (List.replicate (l.length + 3) (.int .u8 0)) 5 HB1.out (l.map byteV) ?c1 ?c2 ?c3 ?c4 g w HM1.out (Nat.le_refl _) ?_)
  case c1 => simp
  case c2 =>
    intro h0
    have hl0 : 0 < l.length := by simpa using h0
    obtain ⟨g', off, rfl, -⟩ := rd_at HX1.out hl0
    refine ⟨_, rfl, fun j x hj => ?_⟩
    obtain ⟨A', c', e', -, -, h5⟩ := HX1.out
    obtain ⟨g2, off2, e2, hc⟩ := h5 j (byteV x) (by rw [List.getElem?_map, hj]; rfl)
    rw [← (Value.slice.inj e').1] at e2
    cases e2
    rw [Addr.add_lit]
    exact hc
  case c3 => simp
  case c4 => exact bytes_one l
  intro w2 HB2 hb2
  have hb := HB2.out
  rw [show splice (List.replicate (l.length + 3) (Value.int .u8 0)) 0 (l.map byteV) = l.map byteV ++ [.int .u8 0, .int .u8 0, .int .u8 0] by
    unfold splice
    rw [List.take_zero, List.nil_append, List.drop_replicate, List.length_map, show l.length + 3 - (0 + l.length) = 3 by omega]
    rfl] at hb
  have HM2 := Lib.hid hb2
  have HB := Lib.hid hb
  clear hw1 HX HX1 HB1 HM1 HB2 hb2 hb HI1
  have s2 : IntKind.i64.wrap ((l.length : Int) + 1) = (l.length : Int) + 1 := IntWalk.i64_in _ (by omega)
  have s3 : IntKind.i64.wrap ((l.length : Int) + 2) = (l.length : Int) + 2 := IntWalk.i64_in _ (by omega)
  have s4 : ((l.length : Int) + 1).toNat = l.length + 1 := by omega
  have s5 : ((l.length : Int) + 2).toNat = l.length + 2 := by omega
  have s6 : ((l.length : Int) + 3).toNat = l.length + 3 := by omega
  have c0 : w2.cell? ⟨g, l.length, none⟩ = some (.int .u8 0) := by rw [cell_of_row _ _ _ _ _ _ HB.out]; exact mark_at l _ 0 _ rfl
  have f0 : w2.frozen? ⟨g, l.length, none⟩ = false := frozen_of_row _ _ _ _ _ HB.out
  go_upto_region 5 with fail
  have HB5 := Lib.hid (heap_setCell_same w2 g l.length _ 5 (.int .u8 201) HB.out)
  rw [mark_set l l.length 0 (by omega) _ (.int .u8 201) [.int .u8 201, .int .u8 0, .int .u8 0] rfl] at HB5
  have HM5 := Lib.hid (HM2.out.setCell (p := ⟨g, l.length, none⟩) (Nat.le_refl g) (.int .u8 201))
  clear c0 f0 HB HM2
  generalize w2.setCell ⟨g, l.length, none⟩ (.int .u8 201) = w5 at *
  have c0 : w5.cell? ⟨g, l.length + 1, none⟩ = some (.int .u8 0) := by rw [cell_of_row _ _ _ _ _ _ HB5.out]; exact mark_at l _ 1 _ rfl
  have f0 : w5.frozen? ⟨g, l.length + 1, none⟩ = false := frozen_of_row _ _ _ _ _ HB5.out
  go_upto_region 6 with fail
  have HB6 := Lib.hid (heap_setCell_same w5 g (l.length + 1) _ 5 (.int .u8 202) HB5.out)
  rw [mark_set l (l.length + 1) 1 rfl _ (.int .u8 202) [.int .u8 201, .int .u8 202, .int .u8 0] rfl] at HB6
  have HM6 := Lib.hid (HM5.out.setCell (p := ⟨g, l.length + 1, none⟩) (Nat.le_refl g) (.int .u8 202))
  clear c0 f0 HB5 HM5
  generalize w5.setCell ⟨g, l.length + 1, none⟩ (.int .u8 202) = w6 at *
  have c0 : w6.cell? ⟨g, l.length + 2, none⟩ = some (.int .u8 0) := by rw [cell_of_row _ _ _ _ _ _ HB6.out]; exact mark_at l _ 2 _ rfl
  have f0 : w6.frozen? ⟨g, l.length + 2, none⟩ = false := frozen_of_row _ _ _ _ _ HB6.out
  go_upto_region 7 with fail
  have HB7 := Lib.hid (heap_setCell_same w6 g (l.length + 2) _ 5 (.int .u8 203) HB6.out)
  rw [mark_set l (l.length + 2) 2 rfl _ (.int .u8 203) [.int .u8 201, .int .u8 202, .int .u8 203] rfl] at HB7
  have HM7 := Lib.hid (HM6.out.setCell (p := ⟨g, l.length + 2, none⟩) (Nat.le_refl g) (.int .u8 203))
  clear c0 f0 HB6 HM6
  generalize w6.setCell ⟨g, l.length + 2, none⟩ (.int .u8 203) = w7 at *
  go_wp2_with fail
  go_ret
  exact ⟨g, rfl, by omega, by simpa [byteV] using HB7.out, Mods.below (by rw [hg]; exact HM7.out) _⟩
/-- A copy, with its marks behind it. -/
def MarkP (g : Nat) (l : List UInt8) : Pc := Pc.blk g (.cells ((l ++ [201, 202, 203]).map byteV).toArray 5)
def markV (g : Nat) (l : List UInt8) : Value := .slice (some ⟨g, 0, none⟩) l.length (l.length + 3)
theorem rd_mark {w : World} {g : Nat} {l : List UInt8} (h : w.heap[g]? = some (.cells ((l ++ [201, 202, 203]).map byteV).toArray 5 (0, 0))) (hl : l.length ≤ 1000000000) : Rd w (markV g l) (l.map byteV) := by
  refine ⟨some ⟨g, 0, none⟩, l.length + 3, by rw [List.length_map]; rfl, by rw [List.length_map]; omega, by unfold maxLen; omega, fun j u hu => ⟨g, 0, rfl, ?_⟩⟩
  rw [Nat.zero_add, cell_of_row _ _ _ _ _ _ h, List.getElem?_toArray, List.map_append, List.getElem?_append_left (List.getElem?_eq_some_iff.1 hu).1]
  exact hu
theorem mark3 {w : World} {g : Nat} {l : List UInt8} (h : w.heap[g]? = some (.cells ((l ++ [201, 202, 203]).map byteV).toArray 5 (0, 0))) :
    w.cell? ⟨g, l.length, none⟩ = some (.int .u8 201) ∧ w.cell? ⟨g, l.length + 1, none⟩ = some (.int .u8 202) ∧ w.cell? ⟨g, l.length + 2, none⟩ = some (.int .u8 203) := by
  rw [List.map_append] at h
  refine ⟨?_, ?_, ?_⟩ <;> rw [cell_of_row _ _ _ _ _ _ h]
  · exact mark_at l _ 0 _ rfl
  · exact mark_at l _ 1 _ rfl
  · exact mark_at l _ 2 _ rfl
set_option maxRecDepth 100000 in
set_option maxHeartbeats 1000000 in
theorem room_any {w : World} {g : Nat} {vu : Value} (l : List UInt8) (hg : w.heap[g]? = some (.cells ((l ++ [201, 202, 203]).map byteV).toArray 5 (0, 0))) (hu : Rd w vu (l.map byteV)) (hl : l.length ≤ 1000000000) :
    Calls Tryz.prog 28 #[markV g l, vu] w fun e w' => e = .returned (.bool true) ∧ w = w' := by
  have hcv := conv_rd (rd_mark hg hl)
  have hcu := conv_rd hu
  obtain ⟨c0, c1, c2⟩ := mark3 hg
  obtain ⟨A, c, rfl, -⟩ := rd_slice hu
  clear hg hu
  have s1 : IntKind.i64.wrap ((l.length : Int) + 3) = (l.length : Int) + 3 := IntWalk.i64_in _ (by omega)
  have s2 : IntKind.i64.wrap ((l.length : Int) + 1) = (l.length : Int) + 1 := IntWalk.i64_in _ (by omega)
  have s3 : IntKind.i64.wrap ((l.length : Int) + 2) = (l.length : Int) + 2 := IntWalk.i64_in _ (by omega)
  have s4 : ((l.length : Int) + 1).toNat = l.length + 1 := by omega
  have s5 : ((l.length : Int) + 2).toNat = l.length + 2 := by omega
  have s6 : ((l.length : Int) + 3).toNat = l.length + 3 := by omega
  unfold markV at hcv ⊢
  go_enter Tryz.func28, Tryz.ntmps28
  go_wp2_with fail
  go_ret
  exact ⟨rfl, rfl⟩
theorem Rd.modsN {w w' : World} {v : Value} {xs : List Value} {F : List Nat} (h : Rd w v xs) (hm : Mods F w w') (hn : xs ≠ [] → ∀ k, v.ownBlock = some k → k ∉ F) : Rd w' v xs := by
  by_cases hx : xs = []
  · subst hx
    obtain ⟨A, c, rfl, h1, h2, -⟩ := h
    exact ⟨A, c, rfl, h1, h2, fun j u hu => by simp at hu⟩
  · exact h.mods hm (hn hx)
/-- A list written over by another one, as far as that goes. -/
def ovr (l c : List UInt8) (k : Nat) : List UInt8 := c.take k ++ l.drop k
theorem ovr_len {l c : List UInt8} {k : Nat} (h1 : k ≤ l.length) (h2 : k ≤ c.length) : (ovr l c k).length = l.length := by simp [ovr]; omega
theorem ovr_next {l c : List UInt8} {k : Nat} (h1 : k < l.length) (h2 : k < c.length) : (ovr l c k).set k c[k] = ovr l c (k + 1) := by
  unfold ovr
  rw [List.drop_eq_getElem_cons h1, List.set_append, if_neg (by simp; omega), List.length_take, show k - min k c.length = 0 by omega, List.set_cons_zero]
  have e : c.take (k + 1) = c.take k ++ [c[k]] := by rw [List.take_add_one, List.getElem?_eq_getElem h2]; rfl
  rw [e, List.append_assoc]
  rfl
def RelOv (w : World) (g : Nat) (l c : List UInt8) (i : Value) (wr : World) : Prop :=
  ∃ k : Nat, k ≤ l.length ∧ k ≤ c.length ∧ i = .int .i64 (k : Int) ∧ wr.heap[g]? = some (.cells ((ovr l c k ++ [201, 202, 203]).map byteV).toArray 5 (0, 0)) ∧ Mods [g] w wr
/-- What it is in the end. -/
def over (l c : List UInt8) : List UInt8 := ovr l c (min l.length c.length)
theorem over_len (l c : List UInt8) : (over l c).length = l.length := ovr_len (Nat.min_le_left _ _) (Nat.min_le_right _ _)
set_option maxRecDepth 100000 in
set_option maxHeartbeats 1000000 in
theorem overB_any {w : World} {g : Nat} {vc : Value} (l c : List UInt8) (hg : w.heap[g]? = some (.cells ((l ++ [201, 202, 203]).map byteV).toArray 5 (0, 0))) (hc : Rd w vc (c.map byteV)) (hn : c ≠ [] → vc.ownBlock ≠ some g) (hl : l.length ≤ 1000000000) :
    Calls Tryz.prog 29 #[markV g l, vc] w fun e w' => e = .returned (.tuple #[]) ∧ w'.heap[g]? = some (.cells ((over l c ++ [201, 202, 203]).map byteV).toArray 5 (0, 0)) ∧ Mods [g] w w' := by
  have HC := Lib.hid hc
  have HG := Lib.hid hg
  obtain ⟨A, cc, rfl, hc1, hc2⟩ := rd_slice hc
  have HN := Lib.hid hn
  clear hg hc hn
  have hcl : c.length ≤ 9223372036854775807 := by unfold maxLen at hc2; omega
  unfold markV
  go_enter Tryz.func29, Tryz.ntmps29
  go_wp2_with fail
  go_loopw [4] (fun i wr => RelOv w g l c i wr) (fun i _ => l.length - (intOf i).toNat)
  case atStart => exact ⟨0, by omega, by omega, rfl, by simpa [ovr] using HG.out, Mods.refl _ _⟩
  case round =>
    obtain ⟨k, hk, hkc, rfl, hg, hm⟩ := hrel
    have HGr := Lib.hid hg
    have HM := Lib.hid hm
    have HCr := Lib.hid (HC.out.modsN hm (fun hne q hq hm => HN.out (fun e => hne (by rw [e]; rfl)) (by simp at hm; subst hm; exact hq)))
    by_cases h1 : k < l.length
    · by_cases h2 : k < c.length
      · obtain ⟨g2, off, rfl, d0⟩ := rd_at HCr.out h2
        have hlen := ovr_len hk hkc
        have hkk : k < (ovr l c k).length := by omega
        have c0 : wr.cell? ⟨g, k, none⟩ = some (byteV ((ovr l c k)[k])) := by
          rw [cell_of_row _ _ _ _ _ _ hg, List.getElem?_toArray, List.map_append, List.getElem?_append_left (by simpa using hkk), List.getElem?_map, List.getElem?_eq_getElem hkk]
          rfl
        unfold byteV at c0
        have f0 : wr.frozen? ⟨g, k, none⟩ = false := frozen_of_row _ _ _ _ _ hg
        have hset := heap_setCell_same wr g k _ 5 (byteV c[k]) hg
        have e : ((ovr l c k ++ [201, 202, 203]).map byteV).toArray.setIfInBounds k (byteV c[k]) = ((ovr l c (k + 1) ++ [201, 202, 203]).map byteV).toArray := by
          rw [List.setIfInBounds_toArray, ← List.map_set, List.set_append, if_pos hkk, ovr_next h1 h2]
        rw [e] at hset
        have HR : Hid (RelOv w g l c (.int .i64 ((k : Int) + 1)) (wr.setCell ⟨g, k, none⟩ (.int .u8 (c[k].toNat : Int)))) := Lib.hid ⟨k + 1, by omega, by omega, rfl, hset, hm.setCell (p := ⟨g, k, none⟩) (Or.inl (by simp)) _⟩
        clear hg hm hset e
        go_wp2_with fail
        exact ⟨HR.out, by simp only [intOf]; omega⟩
      · have hb : decide ((k : Int) < (c.length : Int)) = false := by simp; omega
        have hov : over l c = ovr l c k := by unfold over; congr 1; omega
        clear hg hm
        go_wp2_with fail
        go_end0
        exact ⟨rfl, by rw [hov]; exact HGr.out, HM.out⟩
    · have hb : decide ((k : Int) < (l.length : Int)) = false := by simp; omega
      have hov : over l c = ovr l c k := by unfold over; congr 1; omega
      clear hg hm
      go_wp2_with fail
      go_end0
      exact ⟨rfl, by rw [hov]; exact HGr.out, HM.out⟩
end Go.Proofs.YtnpokdbpmnkbjaaGreatDoor
