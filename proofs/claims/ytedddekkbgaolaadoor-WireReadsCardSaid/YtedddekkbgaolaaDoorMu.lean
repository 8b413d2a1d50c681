/- The walks of much and wrong. -/
import Derived.Test.YtedddekkbgaolaaDoorSc
import Derived.Deep.CutBlock
namespace Go.Proofs.YtedddekkbgaolaaDoor
open Go.RowKit Me

/-- What a count of a script that is small enough says. -/
def Small (L : List (OpP × Value)) : Prop := L.length * 16 ≤ 33554432 ∧ ∀ p ∈ L, p.1.b.length ≤ 33554432 ∧ p.1.s.size ≤ 33554432
def RelMuch (L : List (OpP × Value)) (w : World) (n ah i : Value) (wr : World) : Prop :=
  ∃ k m q : Nat, k ≤ L.length ∧ i = .int .i64 k ∧ n = .int .i64 (m : Int) ∧ ah = .int .i64 (q : Int) ∧ q ≤ m ∧ m ≤ 1125899906842624 ∧ k * 16 ≤ m ∧ (∀ p ∈ L.take k, p.1.b.length ≤ m ∧ p.1.s.size ≤ m) ∧ Mods [] w wr
theorem take_step {L : List (OpP × Value)} {k m m' : Nat} {p : OpP × Value} (h : ∀ p ∈ L.take k, p.1.b.length ≤ m ∧ p.1.s.size ≤ m) (hp : L[k]? = some p) (hm : m ≤ m') (h1 : p.1.b.length ≤ m') (h2 : p.1.s.size ≤ m') :
    ∀ p ∈ L.take (k + 1), p.1.b.length ≤ m' ∧ p.1.s.size ≤ m' := by
  intro x hx
  rw [List.take_add_one, hp] at hx
  rcases List.mem_append.1 hx with hx | hx
  · have := h x hx
    omega
  · simp at hx
    subst hx
    exact ⟨h1, h2⟩
theorem relMuch_next {L : List (OpP × Value)} {w wr : World} {k m q : Nat} {p : OpP × Value} (t u : Nat) (x y : Int) (hall : ∀ p ∈ L.take k, p.1.b.length ≤ m ∧ p.1.s.size ≤ m) (hp : L[k]? = some p) (hq : q ≤ m) (hm : m ≤ 33554432) (hk : k * 16 ≤ m) (h16 : 16 ≤ t) (ht : t ≤ 281474976800000)
    (hb : p.1.b.length ≤ t) (hs : p.1.s.size ≤ t) (hu : u = 0 ∨ u = q + t) (hx : x = ((m + t + u : Nat) : Int)) (hy : y = ((q + t : Nat) : Int)) (hmm : Mods [] w wr) : RelMuch L w (.int .i64 x) (.int .i64 y) (.int .i64 ((k : Int) + 1)) wr := by
  have hlt : k < L.length := (List.getElem?_eq_some_iff.1 hp).1
  exact ⟨k + 1, m + t + u, q + t, by omega, rfl, by rw [hx], by rw [hy], by omega, by omega, by omega, take_step hall hp (by omega) (by omega) (by omega), hmm⟩
set_option maxRecDepth 100000 in
set_option maxHeartbeats 1000000 in
theorem much_any {w : World} (L : List (OpP × Value)) {vl : Value} (hL : Ops w vl L) (hI : ∀ p ∈ L, OpIn w p) (hll : L.length ≤ 70000000000000) :
    Calls Tryd.prog 22 #[vl] w fun e w' => ∃ m : Nat, (m ≤ 33554432 → Small L) ∧ m ≤ 1125899906842624 ∧ e = .returned (.int .i64 (m : Int)) ∧ Mods [] w w' := by
  have HL := Lib.hid hL
  have HI := Lib.hid hI
  obtain ⟨A, c, rfl, hlc, hcm⟩ := hL
  clear hI hlc hcm
  go_enter Tryd.func22, Tryd.ntmps22
  go_wp2_with fail
  go_loopw [3, 4, 5] (fun n ah i wr => RelMuch L w n ah i wr) (fun _ _ i _ => L.length - (intOf i).toNat)
  case atStart => exact ⟨0, 0, 0, by omega, rfl, rfl, rfl, by omega, by omega, by omega, by simp, Mods.refl _ _⟩
  case round =>
    obtain ⟨k, m, q, hk, rfl, rfl, rfl, hqm, hm, hkm, hall, hmm⟩ := hrel
    have HALL := Lib.hid hall
    have HMM := Lib.hid hmm
    have HMN := Lib.hid (fun n => hmm.drewN n)
    clear hall hmm
    rcases Nat.lt_or_ge k L.length with hlt | hge
    · by_cases hroom : m ≤ 33554432
      · obtain ⟨⟨o, vo⟩, hp⟩ : ∃ p, L[k]? = some p := ⟨_, List.getElem?_eq_getElem hlt⟩
        obtain ⟨g, off, rfl, hrg⟩ := (HL.out.mods HMM.out).at k (o, vo) hp
        have hin := HI.out (o, vo) (List.mem_of_getElem? hp)
        obtain ⟨Ab, cb, hvo, -⟩ := rd_slice hin.2
        simp only at hvo
        subst hvo
        have hbl : o.b.length ≤ 140737488355328 := hin.1.b
        have hsl : o.s.size ≤ 140737488355328 := hin.1.s
        have c1 : wr.cell? ⟨g, off + k * 6 + 1, none⟩ = some (.int .i64 o.kind) := hrg 1 _ rfl
        have c4 : wr.cell? ⟨g, off + k * 6 + 4, none⟩ = some (.slice Ab o.b.length cb) := hrg 4 _ rfl
        have c5 : wr.cell? ⟨g, off + k * 6 + 5, none⟩ = some (.string o.s) := hrg 5 _ rfl
        have HP := Lib.hid hp
        clear hp hrg hin
        by_cases h12 : o.kind = 12
        · have k11 : (o.kind == 11) = false := by rw [h12]; rfl
          have k12 : (o.kind == 12) = true := by rw [h12]; rfl
          clear h12
          have hR : ∀ j, RelMuch L w (.int .i64 ((m : Int) + (16 + (o.b.length : Int) + (o.s.size : Int) + 70000))) (.int .i64 ((q : Int) + (16 + (o.b.length : Int) + (o.s.size : Int) + 70000))) (.int .i64 ((k : Int) + 1)) (wr.drewN j) := fun j =>
            relMuch_next (16 + o.b.length + o.s.size + 70000) 0 _ _ HALL.out HP.out hqm hroom hkm (by omega) (by omega) (by show o.b.length ≤ _; omega) (by show o.s.size ≤ _; omega) (Or.inl rfl) (by omega) (by omega) (HMN.out j)
          have HR := Lib.hid hR
          clear hR
          go_wp2_with fail
          go_quiet (fail)
          go_wp2_with fail
          exact ⟨HR.out _, by simp only [intOf]; omega⟩
        · have k12 : (o.kind == 12) = false := by simpa using h12
          by_cases h11 : o.kind = 11
          · have k11 : (o.kind == 11) = true := by rw [h11]; rfl
            clear h11 h12
            have hR : ∀ j, RelMuch L w (.int .i64 ((m : Int) + (16 + (o.b.length : Int) + (o.s.size : Int)) + ((q : Int) + (16 + (o.b.length : Int) + (o.s.size : Int))))) (.int .i64 ((q : Int) + (16 + (o.b.length : Int) + (o.s.size : Int)))) (.int .i64 ((k : Int) + 1)) (wr.drewN j) := fun j =>
              relMuch_next (16 + o.b.length + o.s.size) (q + (16 + o.b.length + o.s.size)) _ _ HALL.out HP.out hqm hroom hkm (by omega) (by omega) (by show o.b.length ≤ _; omega) (by show o.s.size ≤ _; omega) (Or.inr rfl) (by omega) (by omega) (HMN.out j)
            have HR := Lib.hid hR
            clear hR
            go_wp2_with fail
            go_quiet (fail)
            go_wp2_with fail
            exact ⟨HR.out _, by simp only [intOf]; omega⟩
          · have k11 : (o.kind == 11) = false := by simpa using h11
            clear h11 h12
            have hR : ∀ j, RelMuch L w (.int .i64 ((m : Int) + (16 + (o.b.length : Int) + (o.s.size : Int)))) (.int .i64 ((q : Int) + (16 + (o.b.length : Int) + (o.s.size : Int)))) (.int .i64 ((k : Int) + 1)) (wr.drewN j) := fun j =>
              relMuch_next (16 + o.b.length + o.s.size) 0 _ _ HALL.out HP.out hqm hroom hkm (by omega) (by omega) (by show o.b.length ≤ _; omega) (by show o.s.size ≤ _; omega) (Or.inl rfl) (by omega) (by omega) (HMN.out j)
            have HR := Lib.hid hR
            clear hR
            go_wp2_with fail
            go_quiet (fail)
            go_wp2_with fail
            exact ⟨HR.out _, by simp only [intOf]; omega⟩
      · go_wp2_with fail
        go_ret
        exact ⟨m, fun h => absurd h hroom, hm, rfl, HMM.out⟩
    · obtain rfl : k = L.length := by omega
      go_wp2_with fail
      go_ret
      exact ⟨m, fun h => ⟨by omega, fun p hp => by have := HALL.out p (by rw [List.take_length]; exact hp); omega⟩, hm, rfl, HMM.out⟩
end Go.Proofs.YtedddekkbgaolaaDoor
