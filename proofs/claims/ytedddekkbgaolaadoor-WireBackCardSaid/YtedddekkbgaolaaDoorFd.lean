/- The walk of finds: what a step wrote is read again. -/
import Derived.Test.YtedddekkbgaolaaDoorOp
import Derived.Test.YtedddekkbgaolaaDoorSp
import Derived.Deep.RegionWith
namespace Go.Proofs.YtedddekkbgaolaaDoor
open Go.RowKit Me
theorem box_behind {w w1 : World} {a : Nat} {row : Array Value} {t : TypeId} (ha : a < w.heap.size) (hm : Mods [a] ((w.alloc (.cells row t)).drew) w1) (i : Nat) {u : Value} (hu : row[i]? = some u) : w1.cell? ⟨w.heap.size, i, none⟩ = some u := by
  have h1 : w1.cell? ⟨w.heap.size, i, none⟩ = ((w.alloc (.cells row t)).drew).cell? ⟨w.heap.size, i, none⟩ := hm.cell (by show w.heap.size < (w.heap.push _).size; rw [Array.size_push]; omega) (by simp; omega)
  rw [h1]
  have h2 := cells_new w row.toList t i u (by simpa using hu)
  rw [Addr.add_lit] at h2
  simpa using h2
theorem beq_cast (m n : Nat) : ((m : Int) == (n : Int)) = decide (m = n) := by rw [Bool.eq_iff_iff]; simp; omega
def FindsPost (w : World) (a : Nat) (vb : Value) (b : Bool) (S : RSt) (e : Ending) (w' : World) : Prop := e = .returned (.bool b) ∧ RPost 130 w a vb S w'
set_option maxRecDepth 100000 in
set_option maxHeartbeats 1000000 in
theorem finds1 {w : World} {a : Nat} {S : RSt} {rb : Value} (h : IsR 130 w a S rb) (o : OpP) (hk : o.kind = 1) {vb : Value} (hb : Rd w vb (o.b.map byteV)) :
    Calls Tryd.prog 102 #[.pointer (some ⟨a, 0, none⟩), opV o vb] w (FindsPost w a rb (decide ((S.get 1).1 = o.n % 256)) (S.get 1).2) := by
  obtain ⟨A, c, hvb, -⟩ := hb
  rw [List.length_map] at hvb
  subst hvb
  obtain ⟨who, kind, n, k, b, s⟩ := o
  simp only [opV] at *
  subst hk
  have HK := Lib.hid (fun (x : Obj) => ru8_any (h.still (((Mods.refl [] w).alloc x).drew)))
  have HA := Lib.hid (show a < w.heap.size from (Array.getElem?_eq_some_iff.1 h.cells).1)
  have HM := Lib.hid (fun (x : Obj) => ((Mods.refl [] w).alloc x).drew)
  generalize S.get 1 = R at *
  clear h
  generalize hx : (n : Int) = x at *
  have HX := Lib.hid hx
  clear hx
  go_enter Tryd.func102, Tryd.ntmps102
  go_wp2_with fail
  go_region_with (go_at_call 76; refine (HK.out _).mono ?_; rintro e w1 ⟨rfl, hr⟩; have hc := box_behind HA.out hr.2 2 rfl; have HR := Lib.hid hr; clear hr; go_simp)
  all_goals
    go_wp2_with fail
    go_ret
    refine ⟨?_, RPost.behind (HM.out _) HR.out⟩
    exact congrArg (fun b => Ending.returned (Value.bool b)) (by rw [← HX.out]; first | exact beq_cast _ _ | exact beq_cast R.1 (n % 256) | (rw [IntKind.wrap_u16]; exact beq_cast R.1 (n % 256)))
set_option maxRecDepth 100000 in
set_option maxHeartbeats 1000000 in
theorem finds2 {w : World} {a : Nat} {S : RSt} {rb : Value} (h : IsR 130 w a S rb) (o : OpP) (hk : o.kind = 2) {vb : Value} (hb : Rd w vb (o.b.map byteV)) :
    Calls Tryd.prog 102 #[.pointer (some ⟨a, 0, none⟩), opV o vb] w (FindsPost w a rb (decide ((S.get 2).1 = o.n % 65536)) (S.get 2).2) := by
  obtain ⟨A, c, hvb, -⟩ := hb
  rw [List.length_map] at hvb
  subst hvb
  obtain ⟨who, kind, n, k, b, s⟩ := o
  simp only [opV] at *
  subst hk
  have HK := Lib.hid (fun (x : Obj) => ru16_any (h.still (((Mods.refl [] w).alloc x).drew)))
  have HA := Lib.hid (show a < w.heap.size from (Array.getElem?_eq_some_iff.1 h.cells).1)
  have HM := Lib.hid (fun (x : Obj) => ((Mods.refl [] w).alloc x).drew)
  generalize S.get 2 = R at *
  clear h
  generalize hx : (n : Int) = x at *
  have HX := Lib.hid hx
  clear hx
  go_enter Tryd.func102, Tryd.ntmps102
  go_wp2_with fail
  go_region_with (go_at_call 74; refine (HK.out _).mono ?_; rintro e w1 ⟨rfl, hr⟩; have hc := box_behind HA.out hr.2 2 rfl; have HR := Lib.hid hr; clear hr; go_simp)
  all_goals
    go_wp2_with fail
    go_ret
    refine ⟨?_, RPost.behind (HM.out _) HR.out⟩
    exact congrArg (fun b => Ending.returned (Value.bool b)) (by rw [← HX.out]; first | exact beq_cast _ _ | exact beq_cast R.1 (n % 65536) | (rw [IntKind.wrap_u16]; exact beq_cast R.1 (n % 65536)))
set_option maxRecDepth 100000 in
set_option maxHeartbeats 1000000 in
theorem finds3 {w : World} {a : Nat} {S : RSt} {rb : Value} (h : IsR 130 w a S rb) (o : OpP) (hk : o.kind = 3) {vb : Value} (hb : Rd w vb (o.b.map byteV)) :
    Calls Tryd.prog 102 #[.pointer (some ⟨a, 0, none⟩), opV o vb] w (FindsPost w a rb (decide ((S.get 4).1 = o.n % 4294967296)) (S.get 4).2) := by
  obtain ⟨A, c, hvb, -⟩ := hb
  rw [List.length_map] at hvb
  subst hvb
  obtain ⟨who, kind, n, k, b, s⟩ := o
  simp only [opV] at *
  subst hk
  have HK := Lib.hid (fun (x : Obj) => ru32_any (h.still (((Mods.refl [] w).alloc x).drew)))
  have HA := Lib.hid (show a < w.heap.size from (Array.getElem?_eq_some_iff.1 h.cells).1)
  have HM := Lib.hid (fun (x : Obj) => ((Mods.refl [] w).alloc x).drew)
  generalize S.get 4 = R at *
  clear h
  generalize hx : (n : Int) = x at *
  have HX := Lib.hid hx
  clear hx
  go_enter Tryd.func102, Tryd.ntmps102
  go_wp2_with fail
  go_region_with (go_at_call 105; refine (HK.out _).mono ?_; rintro e w1 ⟨rfl, hr⟩; have hc := box_behind HA.out hr.2 2 rfl; have HR := Lib.hid hr; clear hr; go_simp)
  all_goals
    go_wp2_with fail
    go_ret
    refine ⟨?_, RPost.behind (HM.out _) HR.out⟩
    exact congrArg (fun b => Ending.returned (Value.bool b)) (by rw [← HX.out]; first | exact beq_cast _ _ | exact beq_cast R.1 (n % 4294967296) | (rw [IntKind.wrap_u16]; exact beq_cast R.1 (n % 4294967296)))
set_option maxRecDepth 100000 in
set_option maxHeartbeats 1000000 in
theorem finds4 {w : World} {a : Nat} {S : RSt} {rb : Value} (h : IsR 130 w a S rb) (o : OpP) (hk : o.kind = 4) {vb : Value} (hb : Rd w vb (o.b.map byteV)) :
    Calls Tryd.prog 102 #[.pointer (some ⟨a, 0, none⟩), opV o vb] w (FindsPost w a rb (decide ((S.get 8).1 = o.n)) (S.get 8).2) := by
  obtain ⟨A, c, hvb, -⟩ := hb
  rw [List.length_map] at hvb
  subst hvb
  obtain ⟨who, kind, n, k, b, s⟩ := o
  simp only [opV] at *
  subst hk
  have HK := Lib.hid (fun (x : Obj) => ru64_any (h.still (((Mods.refl [] w).alloc x).drew)))
  have HA := Lib.hid (show a < w.heap.size from (Array.getElem?_eq_some_iff.1 h.cells).1)
  have HM := Lib.hid (fun (x : Obj) => ((Mods.refl [] w).alloc x).drew)
  generalize S.get 8 = R at *
  clear h
  generalize hx : (n : Int) = x at *
  have HX := Lib.hid hx
  clear hx
  go_enter Tryd.func102, Tryd.ntmps102
  go_wp2_with fail
  go_region_with (go_at_call 106; refine (HK.out _).mono ?_; rintro e w1 ⟨rfl, hr⟩; have hc := box_behind HA.out hr.2 2 rfl; have HR := Lib.hid hr; clear hr; go_simp)
  all_goals
    go_wp2_with fail
    go_ret
    refine ⟨?_, RPost.behind (HM.out _) HR.out⟩
    exact congrArg (fun b => Ending.returned (Value.bool b)) (by rw [← HX.out]; first | exact beq_cast _ _ | exact beq_cast R.1 (n) | (rw [IntKind.wrap_u16]; exact beq_cast R.1 (n)))
end Go.Proofs.YtedddekkbgaolaaDoor
