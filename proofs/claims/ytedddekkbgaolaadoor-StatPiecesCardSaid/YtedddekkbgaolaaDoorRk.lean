/- Readers side by side, as one piece of memory: each in a block of its own; what they read may be shared. One call of one of them, with all else about. -/
import Derived.Test.YtedddekkbgaolaaDoorPc
import Derived.Test.YtedddekkbgaolaaDoorSd
import Derived.Test.YtedddekkbgaolaaDoorBo
namespace Go.Proofs.YtedddekkbgaolaaDoor
open Go.RowKit Me

theorem map_set_same {α β : Type} {f : α → β} {L : List α} {k : Nat} {x y : α} (h : L[k]? = some x) (hf : f y = f x) : (L.set k y).map f = L.map f := by
  rw [List.map_set, hf]
  refine List.ext_getElem? fun i => ?_
  rw [List.getElem?_set]
  split
  · rename_i hi
    subst hi
    obtain ⟨hk, hx⟩ := List.getElem?_eq_some_iff.1 h
    rw [if_pos (by simpa using hk), List.getElem?_map, h]
    rfl
  · rfl
def ownL (L : List RB) : List Nat := (L.map RB.v).flatMap fun v => v.ownBlock.toList
def RsP (T : TypeId) (L : List RB) : Pc where
  A := fun w F => (∀ x ∈ L, IsR T w x.a x.R x.v) ∧ (∀ v ∈ L.map RB.v, ∀ k, v.ownBlock = some k → k < w.heap.size) ∧ (∀ v ∈ L.map RB.v, ∀ a ∈ L.map RB.a, v.ownBlock ≠ some a) ∧ (L.map RB.a).Nodup ∧ F = L.map RB.a ++ ownL L
  mods := by
    rintro w w' F G ⟨h1, h2, h3, h4, rfl⟩ hm hn
    refine ⟨fun x hx => (h1 x hx).mods hm (hn _ (List.mem_append_left _ (List.mem_map_of_mem hx))) (fun k hk => hn k (List.mem_append_right _ (List.mem_flatMap.2 ⟨x.v, List.mem_map_of_mem hx, by simp [hk]⟩))), fun v hv k hk => Nat.lt_of_lt_of_le (h2 v hv k hk) hm.size, h3, h4, rfl⟩
  lt := by
    rintro w F ⟨h1, h2, h3, h4, rfl⟩ k hk
    rcases List.mem_append.1 hk with hk | hk
    · obtain ⟨x, hx, rfl⟩ := List.mem_map.1 hk
      exact (Array.getElem?_eq_some_iff.1 (h1 x hx).cells).1
    · obtain ⟨v, hv, hk⟩ := List.mem_flatMap.1 hk
      exact h2 v hv k (by simpa using hk)
section
variable {T : TypeId} {w0 w w' : World} {L : List RB} {F : List Nat} {k : Nat} {x : RB} {S' : RSt}
/-- One of them has gone on. -/
theorem RsP.turn (h : (RsP T L).A w F) (hx : L[k]? = some x) (hp : RPost T w x.a x.v S' w') : (RsP T (L.set k ⟨x.a, S', x.v⟩)).A w' F ∧ Mods F w w' := by
  obtain ⟨h1, h2, h3, h4, rfl⟩ := h
  have ea : (L.set k ⟨x.a, S', x.v⟩).map RB.a = L.map RB.a := map_set_same hx rfl
  have ev : (L.set k ⟨x.a, S', x.v⟩).map RB.v = L.map RB.v := map_set_same hx rfl
  have hmx : x ∈ L := List.mem_of_getElem? hx
  refine ⟨⟨fun y hy => ?_, ?_, ?_, ?_, ?_⟩, hp.2.mono (by simp only [List.mem_singleton]; rintro _ rfl; exact Or.inl (List.mem_append_left _ (List.mem_map_of_mem hmx)))⟩
  · obtain ⟨i, hi⟩ := List.mem_iff_getElem?.1 hy
    rw [List.getElem?_set] at hi
    split at hi
    · split at hi
      · simp at hi
        subst hi
        exact hp.1
      · simp at hi
    · rename_i hne
      have hmy : y ∈ L := List.mem_of_getElem? hi
      refine (h1 y hmy).mods hp.2 ?_ ?_
      · simp only [List.mem_singleton]
        intro e
        refine hne ?_
        obtain ⟨hk1, hk2⟩ := List.getElem?_eq_some_iff.1 hx
        obtain ⟨hi1, hi2⟩ := List.getElem?_eq_some_iff.1 hi
        have hpw := List.pairwise_iff_getElem.1 h4
        have hk3 : k < (L.map RB.a).length := by simpa using hk1
        have hi3 : i < (L.map RB.a).length := by simpa using hi1
        rcases Nat.lt_trichotomy k i with hlt | heq | hgt
        · exact absurd (by rw [List.getElem_map, List.getElem_map, hk2, hi2, e]) (hpw k i hk3 hi3 hlt)
        · exact heq
        · exact absurd (by rw [List.getElem_map, List.getElem_map, hk2, hi2, e]) (hpw i k hi3 hk3 hgt)
      · intro q hq
        simp only [List.mem_singleton]
        rintro rfl
        exact h3 y.v (List.mem_map_of_mem hmy) x.a (List.mem_map_of_mem hmx) hq
  · rw [ev]
    exact fun v hv q hq => Nat.lt_of_lt_of_le (h2 v hv q hq) hp.2.size
  · rw [ev, ea]
    exact h3
  · rw [ea]
    exact h4
  · unfold ownL
    rw [ev, ea]
/-- One more. -/
theorem RsP.push {p : Nat} {S : RSt} {vp : Value} (h : Post (RsP T L) w0 F w) (hp : IsR T w p S vp) (hn : p ∉ L.map RB.a) (hv : ∀ v ∈ L.map RB.v, v.ownBlock ≠ some p) (hlt : ∀ q, vp.ownBlock = some q → q < w.heap.size ∧ q ∉ L.map RB.a ∧ (q ∈ F ∨ w0.heap.size ≤ q)) (hF : p ∈ F ∨ w0.heap.size ≤ p) :
    Post (RsP T (L ++ [⟨p, S, vp⟩])) w0 F w := by
  obtain ⟨F1, ⟨h1, h2, h3, h4, rfl⟩, h5, h6⟩ := h
  refine ⟨_, ⟨fun y hy => ?_, fun v hv' q hq => ?_, fun v hv' a ha => ?_, ?_, rfl⟩, h5, fun q hq => ?_⟩
  · simp only [List.mem_append, List.mem_singleton] at hy
    rcases hy with hy | rfl
    · exact h1 y hy
    · exact hp
  · simp only [List.map_append, List.map_cons, List.map_nil, List.mem_append, List.mem_singleton] at hv'
    rcases hv' with hv' | rfl
    · exact h2 v hv' q hq
    · exact (hlt q hq).1
  · simp only [List.map_append, List.map_cons, List.map_nil, List.mem_append, List.mem_singleton] at hv' ha
    rcases hv' with hv' | rfl <;> rcases ha with ha | rfl
    · exact h3 v hv' a ha
    · exact hv v hv'
    · exact fun e => (hlt a e).2.1 ha
    · exact hp.na
  · rw [List.map_append, List.nodup_append]
    refine ⟨h4, by simp, fun a ha b hb => ?_⟩
    simp only [List.map_cons, List.map_nil, List.mem_singleton] at hb
    rw [hb]
    exact fun e => hn (e ▸ ha)
  · unfold ownL at hq
    simp only [List.map_append, List.map_cons, List.map_nil, List.flatMap_append, List.flatMap_cons, List.flatMap_nil, List.mem_append, List.mem_singleton, List.append_nil] at hq
    rcases hq with (hq | rfl) | (hq | hq)
    · exact h6 q (List.mem_append_left _ hq)
    · exact hF
    · exact h6 q (List.mem_append_right _ hq)
    · exact (hlt q (by simpa using hq)).2.2
theorem RsP.nil (T : TypeId) (w : World) : (RsP T []).A w [] := ⟨by simp, by simp, by simp, by simp, rfl⟩
/-- What Part leaves, whether the new one reads the old row or one of its own. -/
def PartP (T : TypeId) (w : World) (a : Nat) (vb : Value) (r : RSt × RSt) (e : Ending) (w' : World) : Prop :=
  ∃ p vp, e = .returned (.pointer (some ⟨p, 0, none⟩)) ∧ IsR T w' p r.1 vp ∧ w.heap.size ≤ p ∧ (∀ k, vp.ownBlock = some k → vb.ownBlock = some k ∨ (w.heap.size ≤ k ∧ k < w'.heap.size)) ∧ RPost T w a vb r.2 w'
theorem PartPost.partP {a : Nat} {vb : Value} {r : RSt × RSt} {e : Ending} (h : PartPost T w a vb r e w') : PartP T w a vb r e w' := by
  obtain ⟨p, vp, h1, h2, h3, h4, h5⟩ := h
  exact ⟨p, vp, h1, h2, h3, fun k hk => Or.inl (h4 k hk), h5⟩
theorem RsP.part {r : RSt × RSt} {e : Ending} (h : (RsP T L).A w F) (hx : L[k]? = some x) (hp : PartP T w x.a x.v r e w') :
    ∃ y : Nat × Value, e = .returned (.pointer (some ⟨y.1, 0, none⟩)) ∧ Post (RsP T (L.set k ⟨x.a, r.2, x.v⟩ ++ [⟨y.1, r.1, y.2⟩])) w F w' := by
  obtain ⟨p, vp, e1, g1, g2, g3, g4⟩ := hp
  obtain ⟨t1, t2⟩ := RsP.turn h hx g4
  have ea : (L.set k ⟨x.a, r.2, x.v⟩).map RB.a = L.map RB.a := map_set_same hx rfl
  have ev : (L.set k ⟨x.a, r.2, x.v⟩).map RB.v = L.map RB.v := map_set_same hx rfl
  have hmx : x ∈ L := List.mem_of_getElem? hx
  obtain ⟨h1, h2, h3, h4, hF⟩ := id h
  have hlt : ∀ a ∈ L.map RB.a, a < w.heap.size := fun a ha => by
    obtain ⟨y, hy, rfl⟩ := List.mem_map.1 ha
    exact (Array.getElem?_eq_some_iff.1 (h1 y hy).cells).1
  refine ⟨(p, vp), e1, RsP.push ⟨F, t1, t2, fun _ hk => Or.inl hk⟩ g1 (fun hm => ?_) (fun v hv e => ?_) (fun q hq => ?_) (Or.inr g2)⟩
  · rw [ea] at hm
    have := hlt p hm
    omega
  · rw [ev] at hv
    have := h2 v hv p e
    omega
  · rw [ea]
    rcases g3 q hq with g | g
    · refine ⟨Nat.lt_of_lt_of_le (h2 x.v (List.mem_map_of_mem hmx) q g) g4.2.size, fun hm => h3 x.v (List.mem_map_of_mem hmx) q hm g, Or.inl ?_⟩
      rw [hF]
      exact List.mem_append_right _ (List.mem_flatMap.2 ⟨x.v, List.mem_map_of_mem hmx, by simp [g]⟩)
    · refine ⟨g.2, fun hm => ?_, Or.inr g.1⟩
      have := hlt q hm
      omega
/-- A new one. -/
theorem RsP.new {a : Nat} {vb : Value} (h : Post (RsP T L) w0 F w) (hm : Mods [] w w') (hi : IsR T w' a S' vb) (hk : ∀ q, vb.ownBlock = some q → w.heap.size ≤ q ∧ q < w'.heap.size) (ha : w.heap.size ≤ a) : Post (RsP T (L ++ [⟨a, S', vb⟩])) w0 F w' := by
  have h' := h.still hm
  have hs := h.mods.size
  obtain ⟨F1, ⟨h1, h2, h3, h4, hF⟩, h5, h6⟩ := h
  have hlt : ∀ a ∈ L.map RB.a, a < w.heap.size := fun a ha => by
    obtain ⟨y, hy, rfl⟩ := List.mem_map.1 ha
    exact (Array.getElem?_eq_some_iff.1 (h1 y hy).cells).1
  refine RsP.push h' hi (fun hm => ?_) (fun v hv e => ?_) (fun q hq => ⟨(hk q hq).2, fun hm => ?_, Or.inr (Nat.le_trans hs (hk q hq).1)⟩) (Or.inr (Nat.le_trans hs ha))
  · have := hlt a hm
    omega
  · have := h2 v hv a e
    omega
  · have := hlt q hm
    have := (hk q hq).1
    omega
end

section
variable {T : TypeId} {w0 w : World} {L : List RB} {F : List Nat} {k : Nat} {x : RB} {S' : RSt} {K K' : Pc} {f : FuncId} {args : Array Value}
theorem RsP.is (h : Post ((RsP T L).star K) w0 F w) (hx : L[k]? = some x) : IsR T w x.a x.R x.v := by
  obtain ⟨F1, hF⟩ := h.front
  exact hF.1 x (List.mem_of_getElem? hx)
theorem RsP.call {val : Value} (h : Post ((RsP T L).star K) w0 F w) (hx : L[k]? = some x) (hc : IsR T w x.a x.R x.v → Calls Tryd.prog f args w fun e w' => e = .returned val ∧ RPost T w x.a x.v S' w') :
    Calls Tryd.prog f args w fun e w' => e = .returned val ∧ Post ((RsP T (L.set k ⟨x.a, S', x.v⟩)).star K) w0 F w' :=
  Post.call h fun F1 hF => (hc (hF.1 x (List.mem_of_getElem? hx))).mono fun _ _ hh => ⟨hh.1, by
    obtain ⟨t1, t2⟩ := RsP.turn hF hx hh.2
    exact ⟨F1, t1, t2, fun _ hk => Or.inl hk⟩⟩
theorem RsP.call2 {val : Value} (h : Post (K'.star ((RsP T L).star K)) w0 F w) (hx : L[k]? = some x) (hc : IsR T w x.a x.R x.v → Calls Tryd.prog f args w fun e w' => e = .returned val ∧ RPost T w x.a x.v S' w') :
    Calls Tryd.prog f args w fun e w' => e = .returned val ∧ Post (K'.star ((RsP T (L.set k ⟨x.a, S', x.v⟩)).star K)) w0 F w' :=
  (RsP.call (h.ent (Pc.Ent.swap _ _ _)) hx hc).mono fun _ _ hh => ⟨hh.1, hh.2.ent (Pc.Ent.swap _ _ _)⟩
/-- Bytes that come out: a row of one's own. -/
def RawP (T : TypeId) (w : World) (a : Nat) (vb : Value) (r : List UInt8 × RSt) (e : Ending) (w' : World) : Prop :=
  ∃ v, e = .returned v ∧ w'.ownsRow w.heap.size 5 1 v r.1.length (r.1.map byteV) ∧ RPost T w a vb r.2 w'
theorem RsP.raw {r : List UInt8 × RSt} (h : Post ((RsP T L).star K) w0 F w) (hx : L[k]? = some x) (hc : IsR T w x.a x.R x.v → Calls Tryd.prog f args w (RawP T w x.a x.v r)) :
    Calls Tryd.prog f args w fun e w' => ∃ v, e = .returned v ∧ Post ((rowOf v r.1).star ((RsP T (L.set k ⟨x.a, r.2, x.v⟩)).star K)) w0 F w' := by
  refine (Post.callx (val := id) (q := fun v => (rowOf v r.1).star (RsP T (L.set k ⟨x.a, r.2, x.v⟩))) h fun F1 hF => (hc (hF.1 x (List.mem_of_getElem? hx))).mono fun _ _ ⟨v, he, ho, hp⟩ => ?_).mono fun _ _ ⟨v, he, hp⟩ => ⟨v, he, hp.ent (Pc.Ent.assoc _ _ _)⟩
  obtain ⟨t1, t2⟩ := RsP.turn hF hx hp
  refine ⟨v, he, v.ownBlock.toList ++ F1, ⟨_, F1, ⟨ownsRow_base ho (Nat.zero_le _), rfl⟩, t1, fun q hq hq' => ?_, rfl⟩, t2, fun q hq => ?_⟩
  · have h1 := (ho.lt q (by simpa using hq)).1
    have h2 := (RsP T L).lt hF q hq'
    omega
  · rcases List.mem_append.1 hq with hq | hq
    · exact Or.inr (ho.lt q (by simpa using hq)).1
    · exact Or.inl hq
theorem RsP.raw2 {r : List UInt8 × RSt} (h : Post (K'.star ((RsP T L).star K)) w0 F w) (hx : L[k]? = some x) (hc : IsR T w x.a x.R x.v → Calls Tryd.prog f args w (RawP T w x.a x.v r)) :
    Calls Tryd.prog f args w fun e w' => ∃ v, e = .returned v ∧ Post ((rowOf v r.1).star (K'.star ((RsP T (L.set k ⟨x.a, r.2, x.v⟩)).star K))) w0 F w' :=
  (RsP.raw (h.ent (Pc.Ent.swap _ _ _)) hx hc).mono fun _ _ ⟨v, he, hp⟩ => ⟨v, he, hp.ent ((Pc.Ent.refl _).mono (Pc.Ent.swap _ _ _))⟩
theorem RsP.cpart {r : RSt × RSt} (h : Post ((RsP T L).star K) w0 F w) (hx : L[k]? = some x) (hc : IsR T w x.a x.R x.v → Calls Tryd.prog f args w (PartP T w x.a x.v r)) :
    Calls Tryd.prog f args w fun e w' => ∃ y : Nat × Value, e = .returned (.pointer (some ⟨y.1, 0, none⟩)) ∧ Post ((RsP T (L.set k ⟨x.a, r.2, x.v⟩ ++ [⟨y.1, r.1, y.2⟩])).star K) w0 F w' :=
  Post.callx (val := fun y : Nat × Value => .pointer (some ⟨y.1, 0, none⟩)) (q := fun y => RsP T (L.set k ⟨x.a, r.2, x.v⟩ ++ [⟨y.1, r.1, y.2⟩])) h fun _ hF => (hc (hF.1 x (List.mem_of_getElem? hx))).mono fun _ _ hh => RsP.part hF hx hh
theorem RsP.cpart2 {r : RSt × RSt} (h : Post (K'.star ((RsP T L).star K)) w0 F w) (hx : L[k]? = some x) (hc : IsR T w x.a x.R x.v → Calls Tryd.prog f args w (PartP T w x.a x.v r)) :
    Calls Tryd.prog f args w fun e w' => ∃ y : Nat × Value, e = .returned (.pointer (some ⟨y.1, 0, none⟩)) ∧ Post (K'.star ((RsP T (L.set k ⟨x.a, r.2, x.v⟩ ++ [⟨y.1, r.1, y.2⟩])).star K)) w0 F w' :=
  (RsP.cpart (h.ent (Pc.Ent.swap _ _ _)) hx hc).mono fun _ _ ⟨y, he, hp⟩ => ⟨y, he, hp.ent (Pc.Ent.swap _ _ _)⟩
theorem RawPost.rawP {a : Nat} {vb : Value} {r : List UInt8 × RSt} {e : Ending} {w' : World} (h : RawPost w a vb r e w') : RawP 130 w a vb r e w' := h
end
/-- A reader of each kind, of like state. -/
structure RQ where
  a : Nat
  va : Value
  c : Nat
  vc : Value
  S : RSt
def RQ.w (x : RQ) : RB := ⟨x.a, x.S, x.va⟩
def RQ.d (x : RQ) : RB := ⟨x.c, x.S, x.vc⟩
def RQ.p (x : RQ) : Value := .pointer (some ⟨x.a, 0, none⟩)
def RQ.q (x : RQ) : Value := .pointer (some ⟨x.c, 0, none⟩)
def RQ.at (x : RQ) (S : RSt) : RQ := ⟨x.a, x.va, x.c, x.vc, S⟩
theorem set_w {P : List RQ} {k : Nat} {x : RQ} (S : RSt) : (P.map RQ.w).set k ⟨x.w.a, S, x.w.v⟩ = (P.set k (x.at S)).map RQ.w := by rw [List.map_set]; rfl
theorem set_d {P : List RQ} {k : Nat} {x : RQ} (S : RSt) : (P.map RQ.d).set k ⟨x.d.a, S, x.d.v⟩ = (P.set k (x.at S)).map RQ.d := by rw [List.map_set]; rfl
theorem at_w {P : List RQ} {k : Nat} {x : RQ} (h : P[k]? = some x) : (P.map RQ.w)[k]? = some x.w := by rw [List.getElem?_map, h]; rfl
theorem at_d {P : List RQ} {k : Nat} {x : RQ} (h : P[k]? = some x) : (P.map RQ.d)[k]? = some x.d := by rw [List.getElem?_map, h]; rfl
theorem set_p {P : List RQ} {k : Nat} {x : RQ} (S : RSt) (h : P[k]? = some x) : (P.set k (x.at S)).map RQ.p = P.map RQ.p := map_set_same h rfl
theorem set_q {P : List RQ} {k : Nat} {x : RQ} (S : RSt) (h : P[k]? = some x) : (P.set k (x.at S)).map RQ.q = P.map RQ.q := map_set_same h rfl
end Go.Proofs.YtedddekkbgaolaaDoor
