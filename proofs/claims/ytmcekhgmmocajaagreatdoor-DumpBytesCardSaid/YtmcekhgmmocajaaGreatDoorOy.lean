/- The Book's own, whole. -/
import Derived.Test.YtmcekhgmmocajaaGreatDoorOa
import Derived.Test.YtmcekhgmmocajaaGreatDoorOb
import Derived.Test.YtmcekhgmmocajaaGreatDoorOc
import Derived.Test.YtmcekhgmmocajaaGreatDoorOk
import Derived.Test.YtmcekhgmmocajaaGreatDoorOl
import Derived.Test.YtmcekhgmmocajaaGreatDoorOm
import Derived.Test.YtmcekhgmmocajaaGreatDoorOi
namespace Go.Proofs.YtmcekhgmmocajaaGreatDoor
open Go Go.RowKit Me

theorem own_any {w0 w : World} {F : List Nat} {b i j B : Nat} {R : Pc} (h : Post ((BkN b i j B).star R) w0 F w) (hi : i ≤ 1000000000000) (hj : j ≤ 1000000000) (hB : B ≤ 1000000000) :
    Calls Tryz.prog 15 #[.pointer (some ⟨b, 0, none⟩)] w fun e w' => e = .returned (.bool true) ∧ Post ((BkN b i j (B + 40)).star R) w0 F w' := by
  obtain ⟨I, J, D, vb, vc, ve, vd, hok, hp⟩ := BkN.open h
  exact own_s1.h (Lib.hid own_a) (Lib.hid (own_s2.h (Lib.hid own_b) (Lib.hid (own_s3.h (Lib.hid own_d) (Lib.hid (own_s4.h (Lib.hid (own_g.h (Lib.hid own_k) (Lib.hid own_l) (Lib.hid own_m))) (Lib.hid (own_s5.h (Lib.hid own_n) (Lib.hid (own_s6.2 (Lib.hid own_i))))))))))) _ _ _ _ _ _ _ _ _ _ _ _ _ _ _ hp hok hi hj hB
end Go.Proofs.YtmcekhgmmocajaaGreatDoor
