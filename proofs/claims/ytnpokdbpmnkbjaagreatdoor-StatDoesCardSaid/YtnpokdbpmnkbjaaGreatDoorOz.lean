/- The Book's own, the growing. -/
import Derived.Test.YtnpokdbpmnkbjaaGreatDoorOy
namespace Go.Proofs.YtnpokdbpmnkbjaaGreatDoor
open Go.RowKit Me

structure IOk2 (N B k : Nat) (I : List It) : Prop where
  len : I.length = N
  bs : ∀ j x, I[j]? = some x → x.bs.length ≤ B + if j < k then 1 else 0
structure JOk2 (N B k : Nat) (J : List Is) : Prop where
  len : J.length = N
  bs : ∀ j x, J[j]? = some x → x.L.length ≤ B + if j < k then 1 else 0
theorem IOk2.set {N B k : Nat} {I : List It} (h : IOk2 N B k I) {x : It} (hx : x.bs.length ≤ B + 1) : IOk2 N B (k + 1) (I.set k x) :=
  ⟨by rw [List.length_set]; exact h.len, fun j y hy => by
    rw [List.getElem?_set] at hy
    split at hy
    · rename_i e
      subst e
      split at hy
      · cases hy
        rw [if_pos (by omega)]
        exact hx
      · cases hy
    · have := h.bs j y hy
      split at this
      · rw [if_pos (by omega)]; exact this
      · split <;> omega⟩
theorem JOk2.set {N B k : Nat} {J : List Is} (h : JOk2 N B k J) {x : Is} (hx : x.L.length ≤ B + 1) : JOk2 N B (k + 1) (J.set k x) :=
  ⟨by rw [List.length_set]; exact h.len, fun j y hy => by
    rw [List.getElem?_set] at hy
    split at hy
    · rename_i e
      subst e
      split at hy
      · cases hy
        rw [if_pos (by omega)]
        exact hx
      · cases hy
    · have := h.bs j y hy
      split at this
      · rw [if_pos (by omega)]; exact this
      · split <;> omega⟩
theorem IOk2.start {N B : Nat} {I : List It} (h : IOk N B I) : IOk2 N B 0 I := ⟨h.len, fun j x hx => by rw [if_neg (by omega)]; exact h.bs x (List.mem_of_getElem? hx)⟩
theorem IOk2.done {N B : Nat} {I : List It} (h : IOk2 N B N I) : IOk N (B + 1) I := ⟨h.len, fun x hx => by
  obtain ⟨j, hj⟩ := List.mem_iff_getElem?.1 hx
  have h1 := h.bs j x hj
  split at h1 <;> omega⟩
theorem JOk2.start {N B : Nat} {J : List Is} (h : JOk N B J) : JOk2 N B 0 J := ⟨h.len, fun j x hx => by rw [if_neg (by omega)]; exact h.bs x (List.mem_of_getElem? hx)⟩
theorem JOk2.done {N B : Nat} {J : List Is} (h : JOk2 N B N J) : JOk N (B + 1) J := ⟨h.len, fun x hx => by
  obtain ⟨j, hj⟩ := List.mem_iff_getElem?.1 hx
  have h1 := h.bs j x hj
  split at h1 <;> omega⟩
theorem owB_cells5 {b n nv : Nat} {vb vc vs vt v u : Value} {l : List Value} {m : List UInt8} {it Z : Pc} {xb xc : List Value} {w0 w : World} {F : List Nat}
    (h : Post ((Pc.row 5 1 v nv l).star ((rowOf u m).star (it.star ((BkC b vb vc vs vt).star ((Pc.row 37 1 vb n xb).star ((Pc.row 37 1 vc n xc).star Z)))))) w0 F w) : w.heap[b]? = some (.cells #[vb, vc, vs, vt] 28 (0, 0)) ∧ w.ownsRow 0 37 1 vb n xb ∧ w.ownsRow 0 37 1 vc n xc ∧ w.ownsRow 0 5 1 v nv l ∧ w.ownsRow 0 5 1 u m.length (m.map byteV) :=
  ⟨h.blkOf ((Pc.Ent.right _ _).trans ((Pc.Ent.right _ _).trans ((Pc.Ent.right _ _).trans (Pc.Ent.left _ _)))),
   h.rowAt ((Pc.Ent.right _ _).trans ((Pc.Ent.right _ _).trans ((Pc.Ent.right _ _).trans ((Pc.Ent.right _ _).trans (Pc.Ent.left _ _))))),
   h.rowAt ((Pc.Ent.right _ _).trans ((Pc.Ent.right _ _).trans ((Pc.Ent.right _ _).trans ((Pc.Ent.right _ _).trans ((Pc.Ent.right _ _).trans (Pc.Ent.left _ _)))))),
   h.rowAt (Pc.Ent.left _ _), h.rowAt ((Pc.Ent.right _ _).trans (Pc.Ent.left _ _))⟩
theorem row_cell5 {e : TypeId} {base g n c k : Nat} {xs : List Value} {w : World} (h : w.ownsRow base e 1 (.slice (some ⟨g, 0, none⟩) n c) n xs) (hk : k < n) : (∃ x, w.cell? ⟨g, k, none⟩ = some x) ∧ w.frozen? ⟨g, k, none⟩ = false := by
  have hl := h.1
  obtain ⟨x, hx⟩ : ∃ x, xs[k]? = some x := ⟨_, List.getElem?_eq_getElem (by omega)⟩
  obtain ⟨g2, c2, e1, h1, h2⟩ := row_cell h hx
  cases e1
  exact ⟨⟨x, h1⟩, h2⟩
def RelC (b : Nat) (vb vc vs vt : Value) (R : Pc) (w0 : World) (F : List Nat) (N M : Nat) (i : Value) (wr : World) : Prop :=
  ∃ (t : Nat) (I : List It) (J : List Is), t ≤ 40 ∧ i = .int .i64 (t : Int) ∧ IOk N (1010000000 + t) I ∧ JOk M (1010000000 + t) J ∧ Post (Ow b vb vc vs vt I J R) w0 F wr
def RelC1 (b : Nat) (vb vc vs vt : Value) (J : List Is) (R : Pc) (w0 : World) (F : List Nat) (N B : Nat) (i : Value) (wr : World) : Prop :=
  ∃ (k : Nat) (I : List It), k ≤ N ∧ i = .int .i64 (k : Int) ∧ IOk2 N B k I ∧ Post (Ow b vb vc vs vt I J R) w0 F wr
def RelC2 (b : Nat) (vb vc vs vt : Value) (I : List It) (R : Pc) (w0 : World) (F : List Nat) (N B : Nat) (i : Value) (wr : World) : Prop :=
  ∃ (k : Nat) (J : List Is), k ≤ N ∧ i = .int .i64 (k : Int) ∧ JOk2 N B k J ∧ Post (Ow b vb vc vs vt I J R) w0 F wr
theorem then_false (K : Act → World → Prop) (Q : Exit → Act → World → Prop) : ∀ e a w, Exit.then K (fun _ _ _ => False) e a w → Exit.then K Q e a w := by
  intro e a w h
  cases e with
  | normal => exact h
  | _ => exact h.elim
theorem block_false (n : Nat) (K : Act → World → Prop) (Q : Exit → Act → World → Prop) : ∀ e a w, Exit.inBlock n (Exit.then K (fun _ _ _ => False)) e a w → Exit.inBlock n (Exit.then K Q) e a w := by
  intro e a w h
  cases e with
  | normal => exact h
  | exit id =>
    simp only [Exit.inBlock] at h ⊢
    split
    · rename_i he
      rw [if_pos he] at h
      exact h
    · rename_i he
      rw [if_neg he] at h
      exact h.elim
  | _ => exact h.elim
structure Two where
  P1 : Prop
  P2 : Prop
  h : Hid P1 → Hid P2 → own_c.1
set_option maxRecDepth 100000 in
set_option maxHeartbeats 40000000 in
noncomputable def own_cc : Two := ⟨_, _, by
  intro hP1 hP2
  intro w0 w F b R Ab cb Ac cc As cs At ct N hil M hjl u4 u5 I HI w3 u6 u7 u15 u16 u17 u18 u19 u20 u21 u22 u23 u24 u25 u26 u27 u28 u29 u30 u31 u32 u33 u34 u35 u36 u37 u38 u39 u40 u41 u42 u43 u44 u45 u46 u47 u48 u49 u50 u51 u52 u53 u54 u55 u56 u57 u58 u59 u60 u61 u62 u63 u64 u65 u66 u67 u68 u69 u70 u71 u72 u73 u74 u75 u76 u77 u78 u79 u80 u81 u82 u83 u84 u85 u86 u87 u88 u89 u90 u91 u92 u93 u94 u95 u96 u97 u98 u99 u100 u101 u102 u103 u104 u105 u106 u107 u108 u109 u110 u111 u112 u113 u114 u115 u116 u117 u118 u119 u120 u121 u122 u123 u124 u125 u126 u127 u128 u129 u130 u131 u132 u133 u134 u135 u136 u137 u138 u139 u140 u141 u142 u143 u144 u145 u146 u147 u148 u149 u150 u151 u152 u153 u154 u155 u156 u157 u158 u159 u160 u161 u162 u163 u164 u165 u166 u167 u168 u169 u170 u171 u172 u173 u174 u175 u176 u177 u178 u179 u180 u181 u182 u183 u184 u185 u186 u187 u188 u189 u190 u191 u192 u193 u194 u195 u196 u197 u198 u199 u200 u201 u202 u203 u204 u205 u206 u207 u208 u209 u210 u211 u212 u213 u214 u215 u216 J HJ HP J0 K1 hJ0 hK1
  go_wp2_with fail
  go_loopw [8, 9, 10] (fun i _ _ wr => RelC b (.slice Ab N cb) (.slice Ac N cc) (.slice As M cs) (.slice At M ct) R w0 F N M i wr) (fun i _ _ _ => 40 - (intOf i).toNat)
  case atStart => exact ⟨0, I, J, by omega, rfl, HI.out, HJ.out, HP.out⟩
  case round =>
    clear HP HI HJ I J w3
    obtain ⟨t, I, J, ht, rfl, hi, hj, hp⟩ := hrel
    rcases Nat.lt_or_ge t 40 with hlt | hge
    · have HI := Lib.hid hi
      have HJ := Lib.hid hj
      have HP := Lib.hid hp
      clear hi hj hp
      go_upto_block 9 with fail
      go_cut [9, 10] from 115 to 214 (fun _ _ w' => ∃ I J, IOk N (1010000000 + (t + 1)) I ∧ JOk M (1010000000 + (t + 1)) J ∧ Post (Ow b (.slice Ab N cb) (.slice Ac N cc) (.slice As M cs) (.slice At M ct) I J R) w0 F w')
      case first =>
        rename_i QI hI Kx hKx J1 K2 hJ1 hK2
        clear hKx
        clear_value QI
        clear Kx hI hJ0 hK1 J0 K1 w
        go_upto_block 10 with fail
        go_cut [9] from 115 to 163 (fun _ w' => ∃ I, IOk N (1010000000 + (t + 1)) I ∧ Post (Ow b (.slice Ab N cb) (.slice Ac N cc) (.slice As M cs) (.slice At M ct) I J R) w0 F w')
        case first =>
          rename_i Kx hKx J3 K3 hJ3 hK3
          clear hKx Kx
          refine wp_mono (Q := Exit.then K3 (fun _ _ _ => False)) ?_ (then_false K3 _)
          clear hJ1 hK2 J1 K2 QI
          revert w0 F b R Ab cb Ac cc As cs At ct N M u4 u5 u6 u7 u15 u16 u17 u18 u19 u20 u21 u22 u23 u24 u25 u26 u27 u28 u29 u30 u31 u32 u33 u34 u35 u36 u37 u38 u39 u40 u41 u42 u43 u44 u45 u46 u47 u48 u49 u50 u51 u52 u53 u54 u55 u56 u57 u58 u59 u60 u61 u62 u63 u64 u65 u66 u67 u68 u69 u70 u71 u72 u73 u74 u75 u76 u77 u78 u79 u80 u81 u82 u83 u84 u85 u86 u87 u88 u89 u90 u91 u92 u93 u94 u95 u96 u97 u98 u99 u100 u101 u102 u103 u104 u105 u106 u107 u108 u109 u110 wr u9 u10 u111 u112 u113 u114 u115 u116 u117 u118 u119 u120 u121 u122 u123 u124 u125 u126 u127 u128 u129 u130 u131 u132 u133 u134 u135 u136 u137 u138 u139 u140 u141 u142 u143 u144 u145 u146 u147 u148 u149 u150 u151 u152 u153 u154 u155 u156 u157 u158 u159 u160 u161 u162 u163 u164 u165 u166 u167 u168 u169 u170 u171 u172 u173 u174 u175 u176 u177 u178 u179 u180 u181 u182 u183 u184 u185 u186 u187 u188 u189 u190 u191 u192 u193 u194 u195 u196 u197 u198 u199 u200 u201 u202 u203 u204 u205 u206 u207 u208 u209 u210 u211 u212 u213 u214 u215 u216 t I J J3 K3
          exact hP1.out
        case rest =>
          clear HI HP I
          obtain ⟨I, hi, hp⟩ := hcut
          rename World => w5
          have HI := Lib.hid hi
          have HP := Lib.hid hp
          clear hi hp
          go_upto_block 12 with fail
          clear wr
          refine wp_mono (Q := Exit.inBlock 9 (Exit.then K2 (fun _ _ _ => False))) ?_ (block_false 9 K2 QI)
          clear QI
          revert w0 F b R Ab cb Ac cc As cs At ct N M u4 u5 u6 u7 u15 u16 u17 u18 u19 u20 u21 u22 u23 u24 u25 u26 u27 u28 u29 u30 u31 u32 u33 u34 u35 u36 u37 u38 u39 u40 u41 u42 u43 u44 u45 u46 u47 u48 u49 u50 u51 u52 u53 u54 u55 u56 u57 u58 u59 u60 u61 u62 u63 u64 u65 u66 u67 u68 u69 u70 u71 u72 u73 u74 u75 u76 u77 u78 u79 u80 u81 u82 u83 u84 u85 u86 u87 u88 u89 u90 u91 u92 u93 u94 u95 u96 u97 u98 u99 u100 u101 u102 u103 u104 u105 u106 u107 u108 u109 u110 w5 u9 u10 u111 u112 u113 u114 u115 u116 u117 u118 u119 u120 u121 u122 u123 u124 u125 u126 u127 u128 u129 u130 u131 u132 u133 u134 u135 u136 u137 u138 u139 u140 u141 u142 u143 u144 u145 u146 u147 u148 u149 u150 u151 u152 u153 u154 u155 u156 u157 u158 u159 u160 u161 u162 u163 u164 u165 u166 u167 u168 u169 u170 u171 u172 u173 u174 u175 u176 u177 u178 u179 u180 u181 u182 u183 u184 u185 u186 u187 u188 u189 u190 u191 u192 u193 u194 u195 u196 u197 u198 u199 u200 u201 u202 u203 u204 u205 u206 u207 u208 u209 u210 u211 u212 u213 u214 u215 u216 t I J J1 K2
          exact hP2.out
      case rest =>
        clear HI HJ HP I J
        obtain ⟨I, J, hi, hj, hp⟩ := hcut
        have HR : Hid (RelC b (.slice Ab N cb) (.slice Ac N cc) (.slice As M cs) (.slice At M ct) R w0 F N M (.int .i64 ((t : Int) + 1)) wc) := Lib.hid ⟨t + 1, I, J, by omega, rfl, hi, hj, hp⟩
        clear hi hj hp
        go_wp2_with fail
        exact ⟨HR.out, by simp only [intOf]; omega⟩
    · obtain rfl : t = 40 := by omega
      have HR : Hid (∃ I J, IOk N 1010000040 I ∧ JOk M 1010000040 J ∧ Post (Ow b (.slice Ab N cb) (.slice Ac N cc) (.slice As M cs) (.slice At M ct) I J R) w0 F wr) := Lib.hid ⟨I, J, ⟨hi.len, fun x hx => by have := hi.bs x hx; omega⟩, ⟨hj.len, fun x hx => by have := hj.bs x hx; omega⟩, hp⟩
      clear hi hj hp
      go_wp2_with fail
      go_meet
      case rel => exact HR.out⟩
end Go.Proofs.YtnpokdbpmnkbjaaGreatDoor
