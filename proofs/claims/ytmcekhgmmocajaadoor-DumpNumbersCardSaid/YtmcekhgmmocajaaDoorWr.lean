/- The walks of the writer's methods: each is the plain writer's. -/
import Derived.Test.YtmcekhgmmocajaaDoorPut
namespace Go.Proofs.YtmcekhgmmocajaaDoor
open Go.RowKit Me

theorem wrap_u64 (n : Nat) (h : n < 4294967296) : IntKind.u64.wrap (n : Int) = (n : Int) := by
  rw [IntKind.wrap_u64]
  omega

/-- A slice that reads as these cells, whoever owns it. -/
def Rd (w : World) (v : Value) (xs : List Value) : Prop :=
  ∃ A c, v = .slice A xs.length c ∧ xs.length ≤ c ∧ c ≤ maxLen ∧ ∀ j u, xs[j]? = some u → ∃ g off, A = some ⟨g, off, none⟩ ∧ w.cell? ⟨g, off + j, none⟩ = some u
theorem Rd.mods {w w' : World} {v : Value} {xs : List Value} {F : List Nat} (h : Rd w v xs) (hm : Mods F w w') (hn : ∀ k, v.ownBlock = some k → k ∉ F) : Rd w' v xs := by
  obtain ⟨A, c, rfl, h1, h2, h3⟩ := h
  refine ⟨A, c, rfl, h1, h2, fun j u hu => ?_⟩
  obtain ⟨g, off, rfl, hc⟩ := h3 j u hu
  refine ⟨g, off, rfl, ?_⟩
  have hb := World.block_lt_of_cell? w _ hc
  rw [hm.cell hb (hn _ rfl)]
  exact hc
theorem Rd.of_own {w : World} {base : Nat} {e : TypeId} {v : Value} {n : Nat} {xs : List Value} (h : w.ownsRow base e 1 v n xs) : Rd w v xs := by
  have hl := h.1
  rcases ownsRow_form h with ⟨rfl, rfl, rfl⟩ | ⟨g, cap, rfl, h1, h2, _⟩
  · exact ⟨none, 0, rfl, by simp, by unfold maxLen; omega, fun j u hu => by simp at hu⟩
  · obtain rfl : n = xs.length := by omega
    refine ⟨_, _, rfl, h1, h2, fun j u hu => ⟨g, 0, rfl, ?_⟩⟩
    have := h.cells rfl j u hu
    rwa [Addr.add_lit] at this
theorem Rd.src {P : Program} {tx e' : TypeId} (hk : P.underlying tx = some (.slice e')) {w : World} {v : Value} {xs : List Value} (h : Rd w v xs) (h1 : ∀ u ∈ xs, u.oneCell' = true) : Src P 1 tx v xs.length xs w := by
  obtain ⟨A, c, rfl, _, _, h3⟩ := h
  cases xs with
  | nil =>
    cases A with
    | none => exact Src.ofNil _ hk _
    | some ad => exact Src.ofSlice _ hk _ _ _ _ (by simp) (fun j u hu => by simp at hu) h1
  | cons x xs =>
    obtain ⟨g, off, rfl, _⟩ := h3 0 x rfl
    refine Src.ofSlice _ hk _ _ _ _ (by omega) (fun j u hu => ?_) h1
    obtain ⟨_, _, e, hc⟩ := h3 j u hu
    cases e
    rwa [Addr.add_lit]
theorem Rd.slice {w : World} {v : Value} {xs : List Value} (h : Rd w v xs) : ∃ A c, v = .slice A xs.length c := by
  obtain ⟨A, c, h, _⟩ := h
  exact ⟨A, c, h⟩

theorem u32_any {a : Nat} {S : WSt} {vb vo : Value} {w : World} (h : IsW 69 w a S vb vo) (n : Nat) (hn : n < 4294967296) :
    Calls Tryd.prog 18 #[.pointer (some ⟨a, 0, none⟩), .int .u32 n] w fun e w' => e = .returned (.tuple #[]) ∧ WPost 69 w a vb vo (S.put (le n 4)) w' := by
  have H := Lib.hid (put32_any h n (wrap_u64 n hn))
  clear h
  go_enter Tryd.func18, Tryd.ntmps18
  go_wp2_with fail
  refine H.out.mono ?_; rintro e w1 ⟨rfl, hw⟩
  have HW := Lib.hid hw
  clear hw
  go_wp2_with fail
  go_end0
  exact ⟨rfl, HW.out⟩
theorem u64_any {a : Nat} {S : WSt} {vb vo : Value} {w : World} (h : IsW 69 w a S vb vo) (n : Nat) (hn : IntKind.u64.wrap (n : Int) = (n : Int)) :
    Calls Tryd.prog 21 #[.pointer (some ⟨a, 0, none⟩), .int .u64 n] w fun e w' => e = .returned (.tuple #[]) ∧ WPost 69 w a vb vo (S.put (le n 8)) w' := by
  have H := Lib.hid (put64_any h n hn)
  clear h hn
  go_enter Tryd.func21, Tryd.ntmps21
  go_wp2_with fail
  refine H.out.mono ?_; rintro e w1 ⟨rfl, hw⟩
  have HW := Lib.hid hw
  clear hw
  go_wp2_with fail
  go_end0
  exact ⟨rfl, HW.out⟩




end Go.Proofs.YtmcekhgmmocajaaDoor
