/- goOn: all clients that are ending go on. -/
import Derived.Test.YtlgoeipgmjcboaaGreatDoorJy
namespace Go.Proofs.YtlgoeipgmjcboaaGreatDoor
open Go.RowKit Me
theorem goes_len (R : RelP) (n : Nat) : (R.goes n).1.clients.length = R.clients.length := by
  unfold RelP.goes
  split
  · rfl
  · split
    · split <;> rfl
    · split
      · simp [RelP.setCli]
      · split <;> simp [RelP.setCli]
theorem goes_outs (R : RelP) (n : Nat) : (R.goes n).2.length ≤ 1 := by
  unfold RelP.goes
  split
  · simp
  · split
    · split <;> simp [RelP.sends]
    · split
      · simp
      · split <;> simp
theorem goFrom_yes (c n : Nat) (R : RelP) (h : (R.cli n).ending = true) : RelP.goFrom (c + 1) n R = ((RelP.goFrom c (n + 1) (R.goes n).1).1, (R.goes n).2 ++ (RelP.goFrom c (n + 1) (R.goes n).1).2) := by
  rw [RelP.goFrom, if_pos h]
theorem goFrom_no (c n : Nat) (R : RelP) (h : (R.cli n).ending = false) : RelP.goFrom (c + 1) n R = RelP.goFrom c (n + 1) R := by
  rw [RelP.goFrom, if_neg (by rw [h]; simp)]
theorem asInt_app (a b : List OutP) : asInt (a ++ b) = asInt a ++ asInt b := List.map_append
/-- What a call leaves that goes on: what has come out beside L, and what the relay is then; the clients lie where they lay. -/
def Went (w0 : World) (F0 K : List Nat) (r : Nat) (x : RelP × List OutP) (G : Gh) (L : List OutV) (w : World) : Prop :=
  ∃ (L' : List OutV) (G' : Gh), (G'.gc = G.gc ∧ G'.cb = G.cb) ∧ L'.map OutV.plain = asInt x.2 ∧ St w0 F0 K r x.1 x.1.used G' (L ++ L') w
section
variable {w0 w w' : World} {F0 K : List Nat} {r n : Nat} {R R' : RelP} {U : Nat → Nat} {G G' : Gh} {L : List OutV} {vo : Value}
set_option maxRecDepth 100000 in
set_option maxHeartbeats 4000000 in
theorem goOn_any (h : St w0 F0 K r R R.used G L w) (he : Env w0 F0) (hL : L.length ≤ 900) :
    Calls Tryz.prog 46 #[.pointer (some ⟨r, 0, none⟩)] w fun e w' => e = .returned (.tuple #[]) ∧ Went w0 F0 K r R.goOn G L w' := by
  obtain ⟨vo, h1, -⟩ := h.ex
  have c3 : w.cell? ⟨r, 3, none⟩ = some (.slice (some ⟨G.gc, 0, none⟩) R.clients.length G.cc) := h1.cell 3
  have hN := h1.wf.many.2
  have H := Lib.hid h
  have HE := Lib.hid he
  clear h he h1
  have HGO : Hid (R.goOn = RelP.goFrom R.clients.length 1 R) := Lib.hid rfl
  generalize hNN : R.clients.length = N at *
  have HNN := Lib.hid hNN
  clear hNN
  go_enter Tryz.func46, Tryz.ntmps46
  go_wp2_with fail
  go_loopw [9] (fun i wr => ∃ k : Nat, k ≤ N ∧ i = .int .i64 k ∧ ∃ (R1 : RelP) (G1 : Gh) (L1 : List OutV) (o1 : List OutP), (G1.gc = G.gc ∧ G1.cb = G.cb) ∧ R1.clients.length = N ∧ L1.length ≤ k ∧ L1.map OutV.plain = asInt o1 ∧ St w0 F0 K r R1 R1.used G1 (L ++ L1) wr ∧
    R.goOn = ((RelP.goFrom (N - k) (k + 1) R1).1, o1 ++ (RelP.goFrom (N - k) (k + 1) R1).2)) (fun i _ => N - (intOf i).toNat)
  case atStart => exact ⟨0, by omega, rfl, R, G, [], [], ⟨rfl, rfl⟩, HNN.out, by simp, rfl, by rw [List.append_nil]; exact H.out, by rw [HGO.out]; simp⟩
  case round =>
    obtain ⟨k, hk, rfl, R1, G1, L1, o1, hlk, hR1, hL1, ho1, hs, hgo⟩ := hrel
    have HLK := Lib.hid hlk
    have HR1 := Lib.hid hR1
    have HO1 := Lib.hid ho1
    have HS := Lib.hid hs
    have HGN := Lib.hid hgo
    rcases Nat.lt_or_ge k N with hlt | hge
    · obtain ⟨vo1, h1, -⟩ := hs.ex
      obtain ⟨cur, hcur1, hcur2⟩ := h1.row.2.2
      have d1 : wr.cell? ⟨G.gc, k, none⟩ = some (.pointer (some ⟨G.cb k, 0, none⟩)) := by
        rw [← hlk.1, cell_of_row _ _ _ _ _ _ hcur1, hcur2 k (by omega), hlk.2]
      obtain ⟨hbF, p, hrow, -⟩ := h1.cli k (R1.cli (k + 1)) (cli_at (n := k + 1) ⟨by omega, by omega⟩)
      have d2 : wr.cell? ⟨G.cb k, 1, none⟩ = some (.bool (R1.cli (k + 1)).ending) := by
        rw [← hlk.2, cell_of_row _ _ _ _ _ _ hrow]
        rfl
      have hNk : N - k = (N - (k + 1)) + 1 := by omega
      cases eE : (R1.cli (k + 1)).ending with
      | false =>
        rw [eE] at d2
        have HI : Hid (∃ k' : Nat, k' ≤ N ∧ Value.int .i64 ((k : Int) + 1) = .int .i64 k' ∧ ∃ (R1 : RelP) (G1 : Gh) (L1 : List OutV) (o1 : List OutP), (G1.gc = G.gc ∧ G1.cb = G.cb) ∧ R1.clients.length = N ∧ L1.length ≤ k' ∧ L1.map OutV.plain = asInt o1 ∧ St w0 F0 K r R1 R1.used G1 (L ++ L1) wr ∧
            R.goOn = ((RelP.goFrom (N - k') (k' + 1) R1).1, o1 ++ (RelP.goFrom (N - k') (k' + 1) R1).2)) := Lib.hid ⟨k + 1, by omega, by simp, R1, G1, L1, o1, hlk, hR1, by omega, ho1, hs, by rw [hgo, hNk, goFrom_no _ _ _ eE]⟩
        clear hlk hR1 hL1 ho1 hs hgo h1 hcur1 hcur2 hrow hNk eE
        go_wp2_with fail
        exact ⟨HI.out, by simp [intOf]; omega⟩
      | true =>
        rw [eE] at d2
        have hen := ends_any (n := k + 1) hs HE.out ⟨by omega, by omega⟩ eE (by simp; omega)
        rw [show G1.cb (k + 1 - 1) = G.cb k from by rw [hlk.2]; rfl, show ((k + 1 : Nat) : Int) = (k : Int) + 1 from by simp] at hen
        have HEN := Lib.hid hen
        have HF : Hid (R.goOn = ((RelP.goFrom (N - (k + 1)) (k + 1 + 1) (R1.goes (k + 1)).1).1, (o1 ++ (R1.goes (k + 1)).2) ++ (RelP.goFrom (N - (k + 1)) (k + 1 + 1) (R1.goes (k + 1)).1).2)) := Lib.hid (by rw [hgo, hNk, goFrom_yes _ _ _ eE, List.append_assoc])
        have HL1 := Lib.hid hL1
        clear hlk hR1 hL1 ho1 hs hgo h1 hcur1 hcur2 hrow hNk eE hen
        go_wp2_with fail
        refine HEN.out.mono ?_
        rintro e w5 ⟨rfl, L', G', hl, hp, hst⟩
        have HI : Hid (∃ k' : Nat, k' ≤ N ∧ Value.int .i64 ((k : Int) + 1) = .int .i64 k' ∧ ∃ (R1 : RelP) (G1 : Gh) (L1 : List OutV) (o1 : List OutP), (G1.gc = G.gc ∧ G1.cb = G.cb) ∧ R1.clients.length = N ∧ L1.length ≤ k' ∧ L1.map OutV.plain = asInt o1 ∧ St w0 F0 K r R1 R1.used G1 (L ++ L1) w5 ∧
            R.goOn = ((RelP.goFrom (N - k') (k' + 1) R1).1, o1 ++ (RelP.goFrom (N - k') (k' + 1) R1).2)) := Lib.hid (by
          refine ⟨k + 1, by omega, by simp, (R1.goes (k + 1)).1, G', L1 ++ L', o1 ++ (R1.goes (k + 1)).2, ⟨hl.1.trans HLK.out.1, hl.2.trans HLK.out.2⟩, (goes_len _ _).trans HR1.out, ?_, ?_, ?_, HF.out⟩
          · have e1 := congrArg List.length hp
            have e2 := goes_outs R1 (k + 1)
            have e3 := HL1.out
            simp only [asInt, List.length_map] at e1
            rw [List.length_append]
            omega
          · rw [List.map_append, HO1.out, hp, asInt_app]
          · rw [← List.append_assoc]
            exact hst)
        clear hl hp hst
        go_wp2_with fail
        exact ⟨HI.out, by simp [intOf]; omega⟩
    · obtain rfl : k = N := by omega
      clear hlk hR1 hL1 ho1 hs hgo
      go_wp2_with fail
      go_end0
      refine ⟨rfl, L1, G1, HLK.out, ?_, ?_⟩
      · rw [HGN.out, Nat.sub_self]
        simp [RelP.goFrom, HO1.out]
      · rw [HGN.out, Nat.sub_self]
        exact HS.out
end
end Go.Proofs.YtlgoeipgmjcboaaGreatDoor
