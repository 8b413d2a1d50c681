/- The walk of the writer's Shut. -/
import Derived.Test.YtedddekkbgaolaaDoorWt
namespace Go.Proofs.YtedddekkbgaolaaDoor
open Go.RowKit Me

set_option maxHeartbeats 400000 in
theorem shut_err {a : Nat} {S : WSt} {vb vo : Value} {w : World} (h : IsW 122 w a S vb vo) (p : Int) (he : S.err ≠ 0) :
    Calls Tryd.prog 43 #[.pointer (some ⟨a, 0, none⟩), .int .i64 p] w fun e w' => e = .returned (.tuple #[]) ∧ w = w' := by
  obtain ⟨c0, c1, c2, c3, f1, f2, f3⟩ := cell4 h.cells
  have he' : ((S.err : Int) != 0) = true := by rw [bne_iff_ne]; omega
  clear h he c0 c1 c2 f1 f2 f3
  go_enter Tryd.func43, Tryd.ntmps43
  go_wp2_with fail
  refine bodyPost_ret (results_none rfl _ _ _) rfl ?_
  exact ⟨rfl, rfl⟩
set_option maxHeartbeats 400000 in
theorem shut_none {a : Nat} {S : WSt} {vb vo : Value} {w : World} (h : IsW 122 w a S vb vo) (p : Int) (he : S.err = 0) (ho : S.opens = []) :
    Calls Tryd.prog 43 #[.pointer (some ⟨a, 0, none⟩), .int .i64 p] w fun e w' => e = .returned (.tuple #[]) ∧ WPost 122 w a vb vo { S with err := 1 } w' := by
  obtain ⟨c0, c1, c2, c3, f1, f2, f3⟩ := cell4 h.cells
  obtain ⟨A, c, hvo, hlc, hcm⟩ := ownsRow_slice h.o
  rw [ho] at hvo
  have HW := Lib.hid (h.wrong (by decide) 1 (by omega))
  have HM := Lib.hid ((Mods.refl [a] w).setCell (p := ⟨a, 3, none⟩) (Or.inl (by simp)) (.int .i64 ((1 : Nat) : Int)))
  rw [he] at c3
  subst hvo
  simp only [List.length_nil] at c2
  clear h he ho c0 c1 f1 f2 hlc
  go_enter Tryd.func43, Tryd.ntmps43
  go_wp2_with fail
  refine bodyPost_ret (results_none rfl _ _ _) rfl ?_
  exact ⟨rfl, WPost.same HW.out HM.out (by simp [foot])⟩
theorem last_cell {w : World} {g c n q : Nat} {xs : List Nat} (h : w.ownsRow 0 3 1 (.slice (some ⟨g, 0, none⟩) n c) n ((xs ++ [q]).map intV)) : n = xs.length + 1 ∧ w.cell? ⟨g, xs.length, none⟩ = some (.int .i64 (q : Int)) := by
  have hl := h.1
  simp at hl
  refine ⟨by omega, ?_⟩
  rw [h.cellAt xs.length (by omega)]
  simp [intV]
set_option maxHeartbeats 400000 in
theorem shut_other {a : Nat} {S : WSt} {vb vo : Value} {w : World} (h : IsW 122 w a S vb vo) (p : Int) (he : S.err = 0) (xs : List Nat) (q : Nat) (ho : S.opens = xs ++ [q]) (hp : (q : Int) ≠ p) :
    Calls Tryd.prog 43 #[.pointer (some ⟨a, 0, none⟩), .int .i64 p] w fun e w' => e = .returned (.tuple #[]) ∧ WPost 122 w a vb vo { S with err := 1 } w' := by
  obtain ⟨c0, c1, c2, c3, f1, f2, f3⟩ := cell4 h.cells
  have hoo := h.o
  have hmany := h.wf.many
  have hb1 := h.wf.bytes
  have hb2 := h.wf.limit
  rw [ho] at hoo hmany
  have HW := Lib.hid (h.wrong (by decide) 1 (by omega))
  have HM := Lib.hid ((Mods.refl [a] w).setCell (p := ⟨a, 3, none⟩) (Or.inl (by simp)) (.int .i64 ((1 : Nat) : Int)))
  rw [he] at c3
  rcases ownsRow_form hoo with ⟨_, h0, _⟩ | ⟨g, cap, rfl, hnc, hcm, _⟩
  · simp at h0
  · obtain ⟨hn, hcell⟩ := last_cell hoo
    have hpq : ((q : Int) != p) = true := by rw [bne_iff_ne]; exact hp
    simp only [List.length_append, List.length_cons, List.length_nil, Nat.zero_add] at c2 hnc hmany
    clear h he ho c0 c1 f1 f2 hoo hn hp
    go_enter Tryd.func43, Tryd.ntmps43
    go_wp2_with fail
    refine bodyPost_ret (results_none rfl _ _ _) rfl ?_
    exact ⟨rfl, WPost.same HW.out HM.out (by simp [foot])⟩
set_option maxHeartbeats 400000 in
theorem shut_long {a : Nat} {S : WSt} {vb vo : Value} {w : World} (h : IsW 122 w a S vb vo) (he : S.err = 0) (xs : List Nat) (q : Nat) (ho : S.opens = xs ++ [q]) (hlong : 65535 < S.bytes.length - q - 2) :
    Calls Tryd.prog 43 #[.pointer (some ⟨a, 0, none⟩), .int .i64 (q : Int)] w fun e w' => e = .returned (.tuple #[]) ∧ WPost 122 w a vb vo { S with err := 13 } w' := by
  obtain ⟨c0, c1, c2, c3, f1, f2, f3⟩ := cell4 h.cells
  have hoo := h.o
  have hmany := h.wf.many
  have hb1 := h.wf.bytes
  have hb2 := h.wf.limit
  obtain ⟨A, c, hvb, hlc, hcb⟩ := ownsRow_slice h.b
  rw [ho] at hoo hmany
  have HW := Lib.hid (h.wrong (by decide) 13 (by omega))
  have HM := Lib.hid ((Mods.refl [a] w).setCell (p := ⟨a, 3, none⟩) (Or.inl (by simp)) (.int .i64 ((13 : Nat) : Int)))
  rw [he] at c3
  rcases ownsRow_form hoo with ⟨_, h0, _⟩ | ⟨g, cap, rfl, hnc, hcm, _⟩
  · simp at h0
  · obtain ⟨hn, hcell⟩ := last_cell hoo
    subst hvb
    simp only [List.length_append, List.length_cons, List.length_nil, Nat.zero_add] at c2 hnc hmany
    clear h he ho c0 f1 f2 hoo hn
    go_enter Tryd.func43, Tryd.ntmps43
    go_wp2_with fail
    refine bodyPost_ret (results_none rfl _ _ _) rfl ?_
    exact ⟨rfl, WPost.same HW.out HM.out (by simp [foot])⟩
theorem IsW.shut {a : Nat} {S : WSt} {w : World} {gb cb g cap m q : Nat} {xs : List Nat} (h : IsW 122 w a S (.slice (some ⟨gb, 0, none⟩) S.bytes.length cb) (.slice (some ⟨g, 0, none⟩) m cap)) (ho : S.opens = xs ++ [q]) (hq : q + 2 ≤ S.bytes.length) (hl : S.bytes.length - q - 2 ≤ 65535) :
    WPost 122 w a (.slice (some ⟨gb, 0, none⟩) S.bytes.length cb) (.slice (some ⟨g, 0, none⟩) m cap) { S with bytes := (S.bytes.set q (UInt8.ofNat (S.bytes.length - q - 2))).set (q + 1) (UInt8.ofNat ((S.bytes.length - q - 2) / 256)), opens := xs }
      (((w.setCell ⟨gb, q, none⟩ (.int .u8 (((S.bytes.length : Int) - (q : Int) - 2) % 256))).setCell ⟨gb, q + 1, none⟩ (.int .u8 (((S.bytes.length : Int) - (q : Int) - 2) / 256))).setCell ⟨a, 2, none⟩ (.slice (some ⟨g, 0, none⟩) xs.length cap)) := by
  have hr := wrow h (by decide)
  have n1 : gb ≠ a := fun e => hr.1 (by rw [← e]; rfl)
  have n3 : g ≠ a := fun e => hr.2.1 (by rw [← e]; rfl)
  have n4 : gb ≠ g := fun e => hr.2.2 gb rfl (by rw [e]; rfl)
  have v1 : Value.int .u8 (((S.bytes.length : Int) - (q : Int) - 2) % 256) = byteV (UInt8.ofNat (S.bytes.length - q - 2)) := by
    rw [byteV_mod]
    congr 2
    omega
  have v2 : Value.int .u8 (((S.bytes.length : Int) - (q : Int) - 2) / 256) = byteV (UInt8.ofNat ((S.bytes.length - q - 2) / 256)) := by
    rw [byteV_mod]
    congr 1
    omega
  rw [v1, v2]
  have hb := h.b
  have b1 := (hb.stored q (byteV (UInt8.ofNat (S.bytes.length - q - 2)))).1
  have b2 := (b1.stored (q + 1) (byteV (UInt8.ofNat ((S.bytes.length - q - 2) / 256)))).1
  have b3 := ownsRow_set b2 (a := ⟨a, 2, none⟩) (by simp [Value.ownBlock, n1]) (.slice (some ⟨g, 0, none⟩) xs.length cap)
  have hoo := h.o
  rw [ho] at hoo
  have hm : m = xs.length + 1 := by
    rcases ownsRow_form h.o with ⟨h1, _⟩ | ⟨g', cap', h1, _⟩
    · simp at h1
    · simp only [Value.slice.injEq, Option.some.injEq, Addr.mk.injEq, and_true] at h1
      rw [h1.2.1, ho]
      simp
  have o0 : w.ownsRow 0 3 1 (.slice (some ⟨g, 0, none⟩) m cap) m ((xs ++ [q]).map intV) := by
    have : (xs ++ [q]).length = m := by simp; omega
    rwa [this] at hoo
  have o1 := ownsRow_cut o0 xs.length (by omega)
  have o2 := ownsRow_set o1 (a := ⟨gb, q, none⟩) (by simp [Value.ownBlock, Ne.symm n4]) (byteV (UInt8.ofNat (S.bytes.length - q - 2)))
  have o3 := ownsRow_set o2 (a := ⟨gb, q + 1, none⟩) (by simp [Value.ownBlock, Ne.symm n4]) (byteV (UInt8.ofNat ((S.bytes.length - q - 2) / 256)))
  have o4 := ownsRow_set o3 (a := ⟨a, 2, none⟩) (by simp [Value.ownBlock, n3]) (.slice (some ⟨g, 0, none⟩) xs.length cap)
  refine ⟨.slice (some ⟨gb, 0, none⟩) S.bytes.length cb, .slice (some ⟨g, 0, none⟩) xs.length cap, ⟨⟨h.wf.limit, by simpa using h.wf.bytes, fun x hx => ?_, ?_, h.wf.err⟩, ?_, ?_, ?_⟩, ?_, ?_⟩
  · have := h.wf.opens x (by rw [ho]; simp [hx])
    simpa using this
  · have := h.wf.many
    rw [ho] at this
    simp at this ⊢
    omega
  · rw [heap_setCell_same (t := 122) (cs := #[.int .i64 (S.limit : Int), .slice (some ⟨gb, 0, none⟩) S.bytes.length cb, .slice (some ⟨g, 0, none⟩) m cap, .int .i64 (S.err : Int)]) _ _ _ _ (by
      rw [heap_setCell_other _ _ _ _ (by simpa using Ne.symm n1), heap_setCell_other _ _ _ _ (by simpa using Ne.symm n1)]
      exact h.cells)]
    rfl
  · simpa [List.map_set] using b3
  · have e : ((xs ++ [q]).map intV).take xs.length = xs.map intV := by simp
    rw [e] at o4
    exact o4
  · exact (((Mods.refl _ _).setCell (p := ⟨gb, q, none⟩) (Or.inl (mem_foot.2 (Or.inr (Or.inl rfl)))) _).setCell (p := ⟨gb, q + 1, none⟩) (Or.inl (mem_foot.2 (Or.inr (Or.inl rfl)))) _).setCell (p := ⟨a, 2, none⟩) (Or.inl (mem_foot.2 (Or.inl rfl))) _
  · intro k hk
    rcases mem_foot.1 hk with rfl | hk | hk
    · exact Or.inl (mem_foot.2 (Or.inl rfl))
    · exact Or.inl (mem_foot.2 (Or.inr (Or.inl hk)))
    · exact Or.inl (mem_foot.2 (Or.inr (Or.inr hk)))
set_option maxRecDepth 100000 in
set_option maxHeartbeats 1000000 in
theorem shut_right {a : Nat} {S : WSt} {vb vo : Value} {w : World} (h : IsW 122 w a S vb vo) (he : S.err = 0) (xs : List Nat) (q : Nat) (ho : S.opens = xs ++ [q]) (hlong : ¬ 65535 < S.bytes.length - q - 2) :
    Calls Tryd.prog 43 #[.pointer (some ⟨a, 0, none⟩), .int .i64 (q : Int)] w fun e w' => e = .returned (.tuple #[]) ∧
      WPost 122 w a vb vo { S with bytes := (S.bytes.set q (UInt8.ofNat (S.bytes.length - q - 2))).set (q + 1) (UInt8.ofNat ((S.bytes.length - q - 2) / 256)), opens := xs } w' := by
  obtain ⟨c0, c1, c2, c3, f1, f2, f3⟩ := cell4 h.cells
  have hoo := h.o
  have hmany := h.wf.many
  have hb1 := h.wf.bytes
  have hb2 := h.wf.limit
  have hq := h.wf.opens q (by rw [ho]; simp)
  have hr := wrow h (by decide)
  rw [ho] at hoo hmany
  rw [he] at c3
  have H := Lib.hid h
  have HO := Lib.hid ho
  rcases ownsRow_form hoo with ⟨_, h0, _⟩ | ⟨g, cap, rfl, hnc, hcm, _⟩
  · simp at h0
  · rcases ownsRow_form h.b with ⟨_, h0, _⟩ | ⟨gb, cb, rfl, hnb, hcb, _⟩
    · omega
    · obtain ⟨hn, hcell⟩ := last_cell hoo
      have hq1 : q < S.bytes.length := by omega
      have hq2 : q + 1 < S.bytes.length := by omega
      have b1 : w.cell? ⟨gb, q, none⟩ = some (byteV S.bytes[q]) := by
        rw [h.b.cellAt q (by omega)]
        simp [hq1]
      have b2 : w.cell? ⟨gb, q + 1, none⟩ = some (byteV S.bytes[q + 1]) := by
        rw [h.b.cellAt (q + 1) (by omega)]
        simp [hq2]
      have z1 := h.b.frozenAt q
      have z2 := h.b.frozenAt (q + 1)
      have n1 : ¬ gb = a := fun e => hr.1 (by rw [← e]; rfl)
      have n2 : ¬ a = gb := fun e => n1 e.symm
      have n3 : ¬ g = a := fun e => hr.2.1 (by rw [← e]; rfl)
      have n4 : ¬ g = gb := fun e => hr.2.2 gb rfl (by rw [← e]; rfl)
      simp only [List.length_append, List.length_cons, List.length_nil, Nat.zero_add] at c2 hnc hmany
      clear h he ho c0 f1 hoo hn hr f3
      unfold byteV at b1 b2
      go_enter Tryd.func43, Tryd.ntmps43
      go_wp2_with fail
      go_end0
      exact ⟨rfl, H.out.shut HO.out hq (by omega)⟩
/-- Shut. -/
theorem shut_any {a : Nat} {S : WSt} {vb vo : Value} {w : World} (h : IsW 122 w a S vb vo) (p : Int) :
    Calls Tryd.prog 43 #[.pointer (some ⟨a, 0, none⟩), .int .i64 p] w fun e w' => e = .returned (.tuple #[]) ∧ WPost 122 w a vb vo (S.shut p) w' := by
  unfold WSt.shut
  by_cases he : S.err = 0
  · rw [if_neg (by omega)]
    rcases List.eq_nil_or_concat S.opens with ho | ⟨xs, q, ho⟩
    · have hl : S.opens.getLast? = none := by rw [ho]; rfl
      simp only [hl]
      exact shut_none h p he ho
    · rw [List.concat_eq_append] at ho
      have hl : S.opens.getLast? = some q := by rw [ho]; simp
      have hd : S.opens.dropLast = xs := by rw [ho]; simp
      simp only [hl, hd]
      by_cases hp : (q : Int) = p
      · subst hp
        rw [if_neg (by simp)]
        by_cases hlong : 65535 < S.bytes.length - q - 2
        · rw [if_pos hlong]
          exact shut_long h he xs q ho hlong
        · rw [if_neg hlong]
          exact shut_right h he xs q ho hlong
      · rw [if_pos hp]
        exact shut_other h p he xs q ho hp
  · rw [if_pos he]
    refine (shut_err h p he).mono ?_
    rintro e w' ⟨h1, rfl⟩
    exact ⟨h1, WPost.same h (Mods.refl [] _) (by simp)⟩
end Go.Proofs.YtedddekkbgaolaaDoor
