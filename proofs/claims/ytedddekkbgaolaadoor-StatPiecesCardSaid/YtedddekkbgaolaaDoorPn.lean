/- The walks of numbers and opens: a step on both writers. (Printed by wip/bin/gennu.py.) -/
import Derived.Test.YtedddekkbgaolaaDoorPw
namespace Go.Proofs.YtedddekkbgaolaaDoor
open Go.RowKit Me

def WSt.num (S : WSt) (o : OpP) : WSt :=
  if o.kind = 1 then S.put (le (o.n % 256) 1) else if o.kind = 2 then S.put (le (o.n % 65536) 2) else if o.kind = 3 then S.put (le (o.n % 4294967296) 4) else if o.kind = 4 then S.put (le o.n 8) else S
theorem Me.Post.blkAt {p : Pc} {w0 w : World} {F : List Nat} {b : Nat} {o : Obj} (h : Post p w0 F w) (e : Pc.Ent p (Pc.blk b o)) : w.heap[b]? = some o := by
  obtain ⟨F1, h1, _⟩ := h.ent e
  exact h1.1
theorem nat_beq (m n : Nat) : ((m : Int) == (n : Int)) = decide (m = n) := by rw [Bool.eq_iff_iff]; simp; omega
/-- A box beside two pieces, behind them. -/
theorem ent_box (p q r : Pc) : Pc.Ent (r.star (p.star q)) (p.star (q.star r)) := (Pc.Ent.comm _ _).trans (Pc.Ent.assoc _ _ _)
theorem ent_box2 (p q r : Pc) : Pc.Ent (p.star (q.star r)) (p.star q) := (Pc.Ent.refl p).mono (Pc.Ent.left q r)
theorem ent_third (p q r : Pc) : Pc.Ent (p.star (q.star r)) r := (Pc.Ent.right _ _).trans (Pc.Ent.right _ _)
set_option maxRecDepth 100000 in
set_option maxHeartbeats 1000000 in
theorem numbers1 {w : World} {a c : Nat} {S V : WSt} {F : List Nat} (h : (W2 a c S V).A w F) (o : OpP) (hn : o.n < 18446744073709551616) (hk : o.kind = 1) {A : Option Addr} {nb cb : Nat} :
    Calls Tryd.prog 78 #[.pointer (some ⟨a, 0, none⟩), .pointer (some ⟨c, 0, none⟩), opV o (.slice A nb cb)] w fun e w' => e = .returned (.tuple #[]) ∧ Post (W2 a c (S.put (le (o.n % 256) 1)) (V.put (le (o.n % 256) 1))) w F w' := by
  obtain ⟨who, kind, n, k, b, s⟩ := o
  simp only [opV] at *
  subst hk
  have H0 := Lib.hid (fun (x : Obj) => ((Post.start h).alloc x).ent (ent_box _ _ _))
  have c1 : (n : Int) % 256 = ((n % 256 : Nat) : Int) := rfl
  have c2 : (n : Int) % 65536 = ((n % 65536 : Nat) : Int) := rfl
  have c3 : (n : Int) % 4294967296 = ((n % 4294967296 : Nat) : Int) := rfl
  have HN := Lib.hid (And.intro hn (And.intro c1 (And.intro c2 c3)))
  clear hn c1 c2 c3 h
  generalize hx : (n : Int) = x at *
  have HX := Lib.hid hx
  clear hx
  go_enter Tryd.func78, Tryd.ntmps78
  go_wp2_with fail
  first | rw [HN.out.2.1] | rw [IntKind.wrap_u8, HN.out.2.1]
  refine (Post.wr (H0.out _) fun vb vo hi => u8_any hi (n % 256) (by omega)).mono ?_; rintro e w1 ⟨rfl, hp⟩
  have hb := hp.blkAt (ent_third _ _ _)
  have hc2 : w1.cell? ⟨w.heap.size, 2, none⟩ = some (.int .u64 (n : Int)) := by rw [HX.out, cell_of_row _ _ _ _ _ _ hb]; rfl
  have H1 := Lib.hid (hp.ent (Pc.Ent.swap _ _ _))
  rw [HX.out] at hc2
  clear hp hb
  go_wp2_with fail
  first | rw [HN.out.2.1] | rw [IntKind.wrap_u8, HN.out.2.1]
  refine (Post.wr H1.out fun vb vo hi => vu8_any hi (n % 256) (by omega)).mono ?_; rintro e w2 ⟨rfl, hp⟩
  have H2 := Lib.hid ((hp.ent (Pc.Ent.swap _ _ _)).ent (ent_box2 _ _ _))
  clear hp hc2
  go_wp2_with fail
  go_end0
  exact ⟨rfl, H2.out⟩
set_option maxRecDepth 100000 in
set_option maxHeartbeats 1000000 in
theorem numbers2 {w : World} {a c : Nat} {S V : WSt} {F : List Nat} (h : (W2 a c S V).A w F) (o : OpP) (hn : o.n < 18446744073709551616) (hk : o.kind = 2) {A : Option Addr} {nb cb : Nat} :
    Calls Tryd.prog 78 #[.pointer (some ⟨a, 0, none⟩), .pointer (some ⟨c, 0, none⟩), opV o (.slice A nb cb)] w fun e w' => e = .returned (.tuple #[]) ∧ Post (W2 a c (S.put (le (o.n % 65536) 2)) (V.put (le (o.n % 65536) 2))) w F w' := by
  obtain ⟨who, kind, n, k, b, s⟩ := o
  simp only [opV] at *
  subst hk
  have H0 := Lib.hid (fun (x : Obj) => ((Post.start h).alloc x).ent (ent_box _ _ _))
  have c1 : (n : Int) % 256 = ((n % 256 : Nat) : Int) := rfl
  have c2 : (n : Int) % 65536 = ((n % 65536 : Nat) : Int) := rfl
  have c3 : (n : Int) % 4294967296 = ((n % 4294967296 : Nat) : Int) := rfl
  have HN := Lib.hid (And.intro hn (And.intro c1 (And.intro c2 c3)))
  clear hn c1 c2 c3 h
  generalize hx : (n : Int) = x at *
  have HX := Lib.hid hx
  clear hx
  go_enter Tryd.func78, Tryd.ntmps78
  go_wp2_with fail
  first | rw [HN.out.2.2.1] | rw [IntKind.wrap_u16, HN.out.2.2.1]
  refine (Post.wr (H0.out _) fun vb vo hi => u16_any hi (n % 65536) (by omega)).mono ?_; rintro e w1 ⟨rfl, hp⟩
  have hb := hp.blkAt (ent_third _ _ _)
  have hc2 : w1.cell? ⟨w.heap.size, 2, none⟩ = some (.int .u64 (n : Int)) := by rw [HX.out, cell_of_row _ _ _ _ _ _ hb]; rfl
  have H1 := Lib.hid (hp.ent (Pc.Ent.swap _ _ _))
  rw [HX.out] at hc2
  clear hp hb
  go_wp2_with fail
  first | rw [HN.out.2.2.1] | rw [IntKind.wrap_u16, HN.out.2.2.1]
  refine (Post.wr H1.out fun vb vo hi => vu16_any hi (n % 65536) (by omega)).mono ?_; rintro e w2 ⟨rfl, hp⟩
  have H2 := Lib.hid ((hp.ent (Pc.Ent.swap _ _ _)).ent (ent_box2 _ _ _))
  clear hp hc2
  go_wp2_with fail
  go_end0
  exact ⟨rfl, H2.out⟩
set_option maxRecDepth 100000 in
set_option maxHeartbeats 1000000 in
theorem numbers3 {w : World} {a c : Nat} {S V : WSt} {F : List Nat} (h : (W2 a c S V).A w F) (o : OpP) (hn : o.n < 18446744073709551616) (hk : o.kind = 3) {A : Option Addr} {nb cb : Nat} :
    Calls Tryd.prog 78 #[.pointer (some ⟨a, 0, none⟩), .pointer (some ⟨c, 0, none⟩), opV o (.slice A nb cb)] w fun e w' => e = .returned (.tuple #[]) ∧ Post (W2 a c (S.put (le (o.n % 4294967296) 4)) (V.put (le (o.n % 4294967296) 4))) w F w' := by
  obtain ⟨who, kind, n, k, b, s⟩ := o
  simp only [opV] at *
  subst hk
  have H0 := Lib.hid (fun (x : Obj) => ((Post.start h).alloc x).ent (ent_box _ _ _))
  have c1 : (n : Int) % 256 = ((n % 256 : Nat) : Int) := rfl
  have c2 : (n : Int) % 65536 = ((n % 65536 : Nat) : Int) := rfl
  have c3 : (n : Int) % 4294967296 = ((n % 4294967296 : Nat) : Int) := rfl
  have HN := Lib.hid (And.intro hn (And.intro c1 (And.intro c2 c3)))
  clear hn c1 c2 c3 h
  generalize hx : (n : Int) = x at *
  have HX := Lib.hid hx
  clear hx
  go_enter Tryd.func78, Tryd.ntmps78
  go_wp2_with fail
  first | rw [HN.out.2.2.2] | rw [IntKind.wrap_u32, HN.out.2.2.2]
  refine (Post.wr (H0.out _) fun vb vo hi => u32_any hi (n % 4294967296) (by omega)).mono ?_; rintro e w1 ⟨rfl, hp⟩
  have hb := hp.blkAt (ent_third _ _ _)
  have hc2 : w1.cell? ⟨w.heap.size, 2, none⟩ = some (.int .u64 (n : Int)) := by rw [HX.out, cell_of_row _ _ _ _ _ _ hb]; rfl
  have H1 := Lib.hid (hp.ent (Pc.Ent.swap _ _ _))
  rw [HX.out] at hc2
  clear hp hb
  go_wp2_with fail
  first | rw [HN.out.2.2.2] | rw [IntKind.wrap_u32, HN.out.2.2.2]
  refine (Post.wr H1.out fun vb vo hi => vu32_any hi (n % 4294967296) (by omega)).mono ?_; rintro e w2 ⟨rfl, hp⟩
  have H2 := Lib.hid ((hp.ent (Pc.Ent.swap _ _ _)).ent (ent_box2 _ _ _))
  clear hp hc2
  go_wp2_with fail
  go_end0
  exact ⟨rfl, H2.out⟩
set_option maxRecDepth 100000 in
set_option maxHeartbeats 1000000 in
theorem numbers4 {w : World} {a c : Nat} {S V : WSt} {F : List Nat} (h : (W2 a c S V).A w F) (o : OpP) (hn : o.n < 18446744073709551616) (hk : o.kind = 4) {A : Option Addr} {nb cb : Nat} :
    Calls Tryd.prog 78 #[.pointer (some ⟨a, 0, none⟩), .pointer (some ⟨c, 0, none⟩), opV o (.slice A nb cb)] w fun e w' => e = .returned (.tuple #[]) ∧ Post (W2 a c (S.put (le (o.n) 8)) (V.put (le (o.n) 8))) w F w' := by
  obtain ⟨who, kind, n, k, b, s⟩ := o
  simp only [opV] at *
  subst hk
  have H0 := Lib.hid (fun (x : Obj) => ((Post.start h).alloc x).ent (ent_box _ _ _))
  have c1 : (n : Int) % 256 = ((n % 256 : Nat) : Int) := rfl
  have c2 : (n : Int) % 65536 = ((n % 65536 : Nat) : Int) := rfl
  have c3 : (n : Int) % 4294967296 = ((n % 4294967296 : Nat) : Int) := rfl
  have HN := Lib.hid (And.intro hn (And.intro c1 (And.intro c2 c3)))
  clear hn c1 c2 c3 h
  go_enter Tryd.func78, Tryd.ntmps78
  go_wp2_with fail
  skip
  refine (Post.wr (H0.out _) fun vb vo hi => u64_any hi (n) (by rw [IntKind.wrap_u64]; have := HN.out.1; omega)).mono ?_; rintro e w1 ⟨rfl, hp⟩
  have hb := hp.blkAt (ent_third _ _ _)
  have hc2 : w1.cell? ⟨w.heap.size, 2, none⟩ = some (.int .u64 (n : Int)) := by rw [cell_of_row _ _ _ _ _ _ hb]; rfl
  have H1 := Lib.hid (hp.ent (Pc.Ent.swap _ _ _))
  clear hp hb
  go_wp2_with fail
  skip
  refine (Post.wr H1.out fun vb vo hi => vu64_any hi (n) (by have := HN.out.1; omega)).mono ?_; rintro e w2 ⟨rfl, hp⟩
  have H2 := Lib.hid ((hp.ent (Pc.Ent.swap _ _ _)).ent (ent_box2 _ _ _))
  clear hp hc2
  go_wp2_with fail
  go_end0
  exact ⟨rfl, H2.out⟩
set_option maxRecDepth 100000 in
set_option maxHeartbeats 1000000 in
theorem numbers_any {w : World} {a c : Nat} {S V : WSt} {F : List Nat} (h : (W2 a c S V).A w F) (o : OpP) (hn : o.n < 18446744073709551616) {A : Option Addr} {nb cb : Nat} :
    Calls Tryd.prog 78 #[.pointer (some ⟨a, 0, none⟩), .pointer (some ⟨c, 0, none⟩), opV o (.slice A nb cb)] w fun e w' => e = .returned (.tuple #[]) ∧ Post (W2 a c (S.num o) (V.num o)) w F w' := by
  unfold WSt.num
  by_cases h1 : o.kind = 1
  · rw [if_pos h1, if_pos h1]
    exact numbers1 h o hn h1
  by_cases h2 : o.kind = 2
  · rw [if_neg h1, if_pos h2, if_neg h1, if_pos h2]
    exact numbers2 h o hn h2
  by_cases h3 : o.kind = 3
  · rw [if_neg h1, if_neg h2, if_pos h3, if_neg h1, if_neg h2, if_pos h3]
    exact numbers3 h o hn h3
  by_cases h4 : o.kind = 4
  · rw [if_neg h1, if_neg h2, if_neg h3, if_pos h4, if_neg h1, if_neg h2, if_neg h3, if_pos h4]
    exact numbers4 h o hn h4
  rw [if_neg h1, if_neg h2, if_neg h3, if_neg h4, if_neg h1, if_neg h2, if_neg h3, if_neg h4]
  have H0 := Lib.hid (fun (x : Obj) => (Post.start h).still ((Mods.refl [] w).alloc x))
  obtain ⟨who, kind, n, k, b, s⟩ := o
  simp only [opV] at *
  have e1 : (kind == 1) = false := by simpa using h1
  have e2 : (kind == 2) = false := by simpa using h2
  have e3 : (kind == 3) = false := by simpa using h3
  have e4 : (kind == 4) = false := by simpa using h4
  clear h1 h2 h3 h4 h hn
  go_enter Tryd.func78, Tryd.ntmps78
  go_wp2_with fail
  go_end0
  exact ⟨rfl, H0.out _⟩
/-- A part begins in both. -/
theorem opens_any {w : World} {a c : Nat} {S V : WSt} {F : List Nat} (h : (W2 a c S V).A w F) :
    Calls Tryd.prog 81 #[.pointer (some ⟨a, 0, none⟩), .pointer (some ⟨c, 0, none⟩)] w fun e w' => e = .returned (.bool (decide (S.opn.2 = V.opn.2))) ∧ Post (W2 a c S.opn.1 V.opn.1) w F w' := by
  have H0 := Lib.hid (Post.start h)
  clear h
  go_enter Tryd.func81, Tryd.ntmps81
  go_wp2_with fail
  refine (H0.out.wr fun vb vo hi => open_any hi).mono ?_; rintro e w1 ⟨rfl, hp⟩
  have H1 := Lib.hid (hp.ent (Pc.Ent.comm _ _))
  clear hp
  go_wp2_with fail
  refine (H1.out.wr fun vb vo hi => vopen_any hi).mono ?_; rintro e w2 ⟨rfl, hp⟩
  have H2 := Lib.hid (hp.ent (Pc.Ent.comm _ _))
  have HB := Lib.hid (nat_beq S.opn.2 V.opn.2)
  clear hp
  go_wp2_with fail
  go_ret
  exact ⟨congrArg (fun r => Ending.returned (Value.bool r)) HB.out, H2.out⟩
end Go.Proofs.YtedddekkbgaolaaDoor

