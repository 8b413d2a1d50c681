/- What is read of bytes, plain: it fits, and each entry takes sixteen bytes at least. -/
import Derived.Test.YtmcekhgmmocajaaGreatDoorTn
namespace Go.Proofs.YtmcekhgmmocajaaGreatDoor

theorem RSt.raw_of {S : RSt} {n : Nat} (h : (S.raw (n : Int)).2.err = 0) : S.err = 0 ∧ (S.raw (n : Int)).2 = S.step n ∧ (S.raw (n : Int)).1.length ≤ S.bytes.length ∧ n ≤ S.rest.length := by
  revert h
  unfold RSt.raw
  by_cases h0 : S.err = 0
  · rw [if_neg (by omega), if_neg (by omega)]
    by_cases hf : (S.rest.length : Int) < (n : Int)
    · rw [if_pos hf]
      intro h
      exact absurd h (S.wrong_err 0 (by omega))
    · rw [if_neg hf]
      intro _
      refine ⟨h0, ?_, ?_, by omega⟩
      · simp [RSt.step]
      · simp [RSt.rest]
        omega
  · rw [if_pos h0]
    intro h
    exact absurd h h0
theorem RSt.entry_of {S : RSt} (h : S.entry.2.err = 0) : ∃ m, 16 ≤ m ∧ S.entry.2 = S.step m ∧ S.err = 0 ∧ S.entry.1.Fits ∧ S.entry.1.path.size < 65536 ∧ S.entry.1.gid.size < 65536 ∧ S.entry.1.data.length ≤ S.bytes.length ∧ S.place + m ≤ S.bytes.length := by
  have hx : S.entry.2 = ((((((S.text).2.get 4).2.get 4).2.text).2.get 4).2.raw ((((((S.text).2.get 4).2.get 4).2.text).2.get 4).1 : Int)).2 := rfl
  rw [hx] at h
  obtain ⟨x0, x1, x2, x3⟩ := RSt.raw_of h
  obtain ⟨n1, n2, n3⟩ := RSt.get_of x0
  have n0 := n1.err
  obtain ⟨d1, d2, d3⟩ := RSt.text_of n0
  have d0 := d1.err
  obtain ⟨c1, c2, c3⟩ := RSt.get_of d0
  have c0 := c1.err
  obtain ⟨b1, b2, b3⟩ := RSt.get_of c0
  have b0 := b1.err
  obtain ⟨a1, a2, a3⟩ := RSt.text_of b0
  have hbytes : (((((S.text).2.get 4).2.get 4).2.text).2.get 4).2.bytes = S.bytes := by
    rw [n3, d3.2, c3, b3, a3.2]
    rfl
  refine ⟨2 + S.text.1.length + 4 + 4 + (2 + (((S.text).2.get 4).2.get 4).2.text.1.length) + 4 + ((((((S.text).2.get 4).2.get 4).2.text).2.get 4).1), by omega, ?_, a1.err, ⟨b2, c2⟩, ?_, ?_, ?_, ?_⟩
  · rw [hx, x1, n3, d3.2, c3, b3, a3.2]
    simp only [RSt.step_step]
  · show (strOf S.text.1).size < 65536
    simpa [strOf, ByteArray.size] using a2
  · show (strOf (((S.text).2.get 4).2.get 4).2.text.1).size < 65536
    simpa [strOf, ByteArray.size] using d2
  · rw [hbytes] at x2
    exact x2
  · have hr := congrArg List.length n1.rest
    rw [List.length_append, le_length] at hr
    have e1 : (((((S.text).2.get 4).2.get 4).2.text).2).rest.length = S.bytes.length - (S.place + (2 + S.text.1.length + 4 + 4 + (2 + (((S.text).2.get 4).2.get 4).2.text.1.length))) := by
      rw [d3.2, c3, b3, a3.2]
      simp only [RSt.step_step]
      simp [RSt.rest, RSt.step]
    have e2 : ((((((S.text).2.get 4).2.get 4).2.text).2.get 4).2).rest.length = S.bytes.length - (S.place + (2 + S.text.1.length + 4 + 4 + (2 + (((S.text).2.get 4).2.get 4).2.text.1.length) + 4)) := by
      rw [n3, d3.2, c3, b3, a3.2]
      simp only [RSt.step_step]
      simp [RSt.rest, RSt.step]
    omega
theorem readN_of : ∀ (n : Nat) (M : List EntP) (S : RSt) (L : List EntP), S.place ≤ S.bytes.length → M.length * 16 ≤ S.place → readN n M S = some L → L.length * 16 ≤ S.bytes.length ∧ ∀ e ∈ L, e ∈ M ∨ (e.Fits ∧ e.path.size < 65536 ∧ e.gid.size < 65536 ∧ e.data.length ≤ S.bytes.length)
  | 0, M, S, L, h1, h2, h => by
    simp only [readN, Option.some.injEq] at h
    subst h
    exact ⟨by omega, fun e he => Or.inl he⟩
  | n + 1, M, S, L, h1, h2, h => by
    unfold readN at h
    by_cases he : S.entry.2.err = 0
    · rw [if_neg (by omega)] at h
      obtain ⟨m, m1, m2, m3, m4, m5, m6, m7, m8⟩ := RSt.entry_of he
      rw [m2] at h
      obtain ⟨k1, k2⟩ := readN_of n (M ++ [S.entry.1]) (S.step m) L m8 (by simp [RSt.step]; omega) h
      refine ⟨k1, fun e he => ?_⟩
      rcases k2 e he with hh | hh
      · rcases List.mem_append.1 hh with hh | hh
        · exact Or.inl hh
        · simp only [List.mem_singleton] at hh
          subst hh
          exact Or.inr ⟨m4, m5, m6, m7⟩
      · exact Or.inr hh
    · rw [if_pos he] at h
      cases h
theorem readD_of {b : List UInt8} {L : List EntP} (h : readD b = some L) : L.length * 16 ≤ b.length ∧ ∀ e ∈ L, e.Fits ∧ e.path.size < 65536 ∧ e.gid.size < 65536 ∧ e.data.length ≤ b.length := by
  have hraw : ∀ k : Nat, ((⟨b, 0, 0, 0, 0⟩ : RSt).raw (k : Int)).2.bytes = b ∧ ((⟨b, 0, 0, 0, 0⟩ : RSt).raw (k : Int)).2.place ≤ b.length := by
    intro k
    unfold RSt.raw RSt.wrong
    repeat' split
    all_goals simp_all [RSt.rest]
    all_goals omega
  have hget : ∀ (S : RSt) (k : Nat), S.place ≤ S.bytes.length → (S.get k).2.bytes = S.bytes ∧ (S.get k).2.place ≤ S.bytes.length := by
    intro S k hS
    unfold RSt.get RSt.wrong
    repeat' split
    all_goals simp_all [RSt.rest]
    all_goals omega
  unfold readD at h
  simp only at h
  by_cases hh : ((⟨b, 0, 0, 0, 0⟩ : RSt).raw 7).1 = headD
  · rw [if_pos hh] at h
    obtain ⟨r1, r2⟩ := hraw 7
    obtain ⟨g1, g2⟩ := hget ((⟨b, 0, 0, 0, 0⟩ : RSt).raw 7).2 4 (by rw [show ((⟨b, 0, 0, 0, 0⟩ : RSt).raw 7) = ((⟨b, 0, 0, 0, 0⟩ : RSt).raw ((7 : Nat) : Int)) from rfl, r1]; exact r2)
    have hb : (((⟨b, 0, 0, 0, 0⟩ : RSt).raw 7).2.get 4).2.bytes = b := g1.trans r1
    obtain ⟨k1, k2⟩ := readN_of _ [] _ L (by rw [hb]; have := r1; rw [show ((⟨b, 0, 0, 0, 0⟩ : RSt).raw 7).2.bytes = b from r1] at g2; exact g2) (by simp) h
    rw [hb] at k1 k2
    refine ⟨k1, fun e he => ?_⟩
    rcases k2 e he with hx | hx
    · cases hx
    · exact hx
  · rw [if_neg hh] at h
    cases h
end Go.Proofs.YtmcekhgmmocajaaGreatDoor
