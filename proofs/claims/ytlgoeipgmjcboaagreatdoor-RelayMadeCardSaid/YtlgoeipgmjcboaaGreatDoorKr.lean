/- RelayMade: walked. -/
import Derived.Test.YtlgoeipgmjcboaaGreatDoorKq
namespace Go.Proofs.YtlgoeipgmjcboaaGreatDoor
open Go.RowKit Me
def cluM : MsgP := { MsgP.zero with kind := 120, tag := 3 }
theorem bClu : Tryz.prog.built 47 [(0, .int .u8 120), (1, .int .u16 3)] = some (msgC cluM nilS nilS nilS).toArray := by kernel_rfl
theorem small_clu : SmallM cluM := ⟨⟨by decide, by decide, by decide, by decide, by decide, by decide, by decide, by simp [cluM, MsgP.zero], zero_fits.1, by decide, by decide, by decide, by decide, by decide, zero_fits.2⟩, by decide, by decide⟩
theorem clu_form : RelP.form cluM = 0 ∧ cluM.size = 11 := by
  constructor <;> kernel_rfl
theorem new_cli {N msize fids tags : Nat} (n : Nat) : (RelP.new N msize fids tags).cli n = CliP.none := by
  unfold RelP.cli RelP.new
  simp only [List.getD_eq_getElem?_getD]
  by_cases h : n - 1 < N
  · rw [List.getElem?_replicate, if_pos h]
    rfl
  · rw [List.getElem?_replicate, if_neg h]
    rfl
theorem new_inn {N msize fids tags : Nat} (h : newOk N msize fids tags) : (RelP.new N msize fids tags).inn 1 cluM = ((RelP.new N msize fids tags, [(1, errM 3 121)]), 0) := by
  have hin : (RelP.new N msize fids tags).isIn 1 := by
    refine ⟨Int.le_refl _, ?_⟩
    have : (RelP.new N msize fids tags).clients.length = N := List.length_replicate
    rw [this]
    exact h.1.1
  have hlim : (RelP.new N msize fids tags).limit (1 : Int).toNat = msize := by
    unfold RelP.limit
    rw [new_cli, if_neg (by decide)]
    rfl
  rw [inn_takes hin (by rw [new_cli]; rfl) (by rw [hlim, clu_form.2]; have := h.2.1.1; omega)]
  show ((RelP.new N msize fids tags).takes 1 cluM, 0) = _
  rw [tk_121 clu_form.1 (by decide) (by rw [new_cli]; rfl)]
  rfl
set_option maxRecDepth 100000 in
set_option maxHeartbeats 16000000 in
theorem made_bad {clients : Int} {msize : Nat} {fids tags : Int} (h : ¬ newOk clients msize fids tags) (hms : msize < 4294967296) (w : World) (hT : Lib.Utf8Tabs 4 5 w) (hc : ∃ m : Int, w.cell? ⟨0, 0, none⟩ = some (.int .i64 m)) :
    Calls Tryz.prog 4 #[.int .i64 clients, .int .u32 (msize : Int), .int .i64 fids, .int .i64 tags] w fun e w' => e = .returned (.bool true) ∧ Mods [] w w' := by
  have HW := Lib.hid (works_any w hT hc)
  have HN := Lib.hid (fun w => new_bad h hms w)
  have HR := Lib.hid (fun w => refnew_bad h w)
  clear h hT hc
  go_enter Tryz.func4, Tryz.ntmps4
  go_wp2_with fail
  refine HW.out.mono ?_
  rintro e w1 ⟨rfl, hm⟩
  have HM := Lib.hid hm
  clear hm
  go_wp2_with fail
  refine (HN.out w1).mono ?_
  rintro e w2 ⟨rfl, rfl⟩
  go_wp2_with fail
  refine (HR.out w2).mono ?_
  rintro e w3 ⟨rfl, rfl⟩
  go_wp2_with fail
  go_ret
  exact ⟨rfl, HM.out⟩
set_option maxRecDepth 100000 in
set_option maxHeartbeats 16000000 in
theorem made_ok {N msize fids tags : Nat} (h : newOk N msize fids tags) (w : World) (hT : Lib.Utf8Tabs 4 5 w) (hc : ∃ m : Int, w.cell? ⟨0, 0, none⟩ = some (.int .i64 m)) :
    Calls Tryz.prog 4 #[.int .i64 (N : Int), .int .u32 (msize : Int), .int .i64 (fids : Int), .int .i64 (tags : Int)] w fun e w' => e = .returned (.bool true) ∧ Mods [] w w' := by
  have HW := Lib.hid (works_any w hT hc)
  have HN := Lib.hid (fun w => new_any h w)
  have HR := Lib.hid (fun w => refnew_any h w)
  have HI := Lib.hid (new_inn h)
  have HT := Lib.hid hT
  have HC := Lib.hid hc
  obtain ⟨mc, hmc⟩ : ∃ mc, mc = (msgC cluM nilS nilS nilS).toArray := ⟨_, rfl⟩
  have HMC := Lib.hid hmc
  have hb := bClu
  rw [← hmc] at hb
  have HB := Lib.hid hb
  have HZ : Hid ((RelP.new N msize fids tags).fidsOf 1 = 0 ∧ (RelP.new N msize fids tags).reqs.length = 0) := Lib.hid ⟨rfl, rfl⟩
  clear h hT hc hmc hb
  go_enter Tryz.func4, Tryz.ntmps4
  go_wp2_with fail
  refine HW.out.mono ?_
  rintro e w1 ⟨rfl, hm⟩
  have HM1 := Lib.hid hm
  clear hm
  go_wp2_with fail
  refine (HN.out w1).mono ?_
  rintro e w2 ⟨r, G, rfl, hrel, hF, hm⟩
  have K2 := Lib.hid (Kept.start (B := 0) hrel hF hm (tabs_mods HM1.out HT.out) (by
    obtain ⟨m, e⟩ := HC.out
    exact ⟨m, by rw [World.cell?_of_block (w := w) (HM1.out.block 0 (by have := tabs_two HT.out; omega) (by simp))]; exact e⟩) rfl)
  clear hrel hF hm
  go_wp2_with fail
  refine (HR.out w2).mono ?_
  rintro e w3 ⟨q, rfl, hm⟩
  have K3 := Lib.hid (K2.out.still hm)
  clear hm
  have HFI := Lib.hid (fids_any K3.out.live.rel 1)
  go_wp2_with fail
  refine HFI.out.mono ?_
  rintro e w4 ⟨rfl, hm⟩
  rw [HZ.out.1]
  have K4 := Lib.hid (K3.out.still hm)
  clear hm
  have HWA := Lib.hid (waiting_any K4.out.live.rel)
  go_wp2_with fail
  refine HWA.out.mono ?_
  rintro e w5 ⟨rfl, rfl⟩
  rw [HZ.out.2]
  have hs := in_step K4.out 1 small_clu ⟨rfl, rfl, rfl⟩ HI.out
  rw [← HMC.out] at hs
  have HS := Lib.hid hs
  clear hs
  go_wp2_with (refine wpList_built rfl 47 _ rfl mc (by simp only [List.map_toArray, List.map_cons, List.map_nil]; exact HB.out) ?_)
  refine HS.out.mono ?_
  rintro e x ⟨A, c, o, G1, rfl, hk, q1, q2, ho⟩
  have KX := Lib.hid hk
  have P := Lib.hid q1
  have Q := Lib.hid q2
  have HO := Lib.hid (one_any ho)
  have HE := Lib.hid (outs_own ho)
  have HI2 : Hid ((Tryz.prog.info? 49).map (·.size) = some o.cells.toArray.size) := Lib.hid (info49a o.c o.m o.vn o.vq o.vd)
  clear hk q1 q2 ho
  go_wp2_with fail
  refine HO.out.mono ?_
  rintro e y ⟨rfl, hm⟩
  have KY := Lib.hid (KX.out.still hm)
  clear hm
  have KZ := Lib.hid (KY.out.add (Z := #[.int .i64 0, .int .u8 0, .int .u16 0, .int .u32 0, .string { data := #[] }, .int .u32 0, .string { data := #[] }, .string { data := #[] }, .string { data := #[] }, .int .u16 0, .int .u32 0, .int .u32 0, .slice none 0 0, .slice none 0 0, .int .u8 0, .int .u32 0, .int .u64 0, .int .u8 0, .int .u32 0, .string { data := #[] }, .int .u32 0, .int .u64 0, .int .u32 0, .slice none 0 0, .int .u16 0, .int .u32 0, .int .u8 0, .int .u32 0, .int .u64 0, .int .u32 0, .int .u32 0, .int .u32 0, .int .u64 0, .string { data := #[] }, .string { data := #[] }, .string { data := #[] }, .string { data := #[] }]) o)
  have d0 : ((y.alloc (.cells #[.int .i64 0, .int .u8 0, .int .u16 0, .int .u32 0, .string { data := #[] }, .int .u32 0, .string { data := #[] }, .string { data := #[] }, .string { data := #[] }, .int .u16 0, .int .u32 0, .int .u32 0, .slice none 0 0, .slice none 0 0, .int .u8 0, .int .u32 0, .int .u64 0, .int .u8 0, .int .u32 0, .string { data := #[] }, .int .u32 0, .int .u64 0, .int .u32 0, .slice none 0 0, .int .u16 0, .int .u32 0, .int .u8 0, .int .u32 0, .int .u64 0, .int .u32 0, .int .u32 0, .int .u32 0, .int .u64 0, .string { data := #[] }, .string { data := #[] }, .string { data := #[] }, .string { data := #[] }] 49)).setRow y.heap.size o.cells.toArray).cell? ⟨y.heap.size, 0, none⟩ = some (.int .i64 1) := by
    rw [KZ.out.at (o := o) (by simp) 0]
    show some (Value.int .i64 o.c) = _
    rw [P.out]
    rfl
  have d1 : ((y.alloc (.cells #[.int .i64 0, .int .u8 0, .int .u16 0, .int .u32 0, .string { data := #[] }, .int .u32 0, .string { data := #[] }, .string { data := #[] }, .string { data := #[] }, .int .u16 0, .int .u32 0, .int .u32 0, .slice none 0 0, .slice none 0 0, .int .u8 0, .int .u32 0, .int .u64 0, .int .u8 0, .int .u32 0, .string { data := #[] }, .int .u32 0, .int .u64 0, .int .u32 0, .slice none 0 0, .int .u16 0, .int .u32 0, .int .u8 0, .int .u32 0, .int .u64 0, .int .u32 0, .int .u32 0, .int .u32 0, .int .u64 0, .string { data := #[] }, .string { data := #[] }, .string { data := #[] }, .string { data := #[] }] 49)).setRow y.heap.size o.cells.toArray).cell? ⟨y.heap.size, 1, none⟩ = some (.int .u8 107) := by
    rw [KZ.out.at (o := o) (by simp) 1]
    show some (Value.int .u8 (o.m.kind : Int)) = _
    rw [Q.out]
    rfl
  have d2 : ((y.alloc (.cells #[.int .i64 0, .int .u8 0, .int .u16 0, .int .u32 0, .string { data := #[] }, .int .u32 0, .string { data := #[] }, .string { data := #[] }, .string { data := #[] }, .int .u16 0, .int .u32 0, .int .u32 0, .slice none 0 0, .slice none 0 0, .int .u8 0, .int .u32 0, .int .u64 0, .int .u8 0, .int .u32 0, .string { data := #[] }, .int .u32 0, .int .u64 0, .int .u32 0, .slice none 0 0, .int .u16 0, .int .u32 0, .int .u8 0, .int .u32 0, .int .u64 0, .int .u32 0, .int .u32 0, .int .u32 0, .int .u64 0, .string { data := #[] }, .string { data := #[] }, .string { data := #[] }, .string { data := #[] }] 49)).setRow y.heap.size o.cells.toArray).cell? ⟨y.heap.size, 2, none⟩ = some (.int .u16 3) := by
    rw [KZ.out.at (o := o) (by simp) 2]
    show some (Value.int .u16 (o.m.tag : Int)) = _
    rw [Q.out]
    rfl
  have d8 : ((y.alloc (.cells #[.int .i64 0, .int .u8 0, .int .u16 0, .int .u32 0, .string { data := #[] }, .int .u32 0, .string { data := #[] }, .string { data := #[] }, .string { data := #[] }, .int .u16 0, .int .u32 0, .int .u32 0, .slice none 0 0, .slice none 0 0, .int .u8 0, .int .u32 0, .int .u64 0, .int .u8 0, .int .u32 0, .string { data := #[] }, .int .u32 0, .int .u64 0, .int .u32 0, .slice none 0 0, .int .u16 0, .int .u32 0, .int .u8 0, .int .u32 0, .int .u64 0, .int .u32 0, .int .u32 0, .int .u32 0, .int .u64 0, .string { data := #[] }, .string { data := #[] }, .string { data := #[] }, .string { data := #[] }] 49)).setRow y.heap.size o.cells.toArray).cell? ⟨y.heap.size, 8, none⟩ = some (.string ⟨#[110, 111, 32, 118, 101, 114, 115, 105, 111, 110, 32, 119, 97, 115, 32, 97, 103, 114, 101, 101, 100, 32, 111, 110]⟩) := by
    rw [KZ.out.at (o := o) (by simp) 8]
    show some (Value.string o.m.ename) = _
    rw [Q.out]
    rfl
  go_wp2_with (refine wpList_store_row rfl 49 _ _ rfl y.heap.size o.cells.toArray rfl rfl 49 _ (heap_alloc_new y _) HI2.out rfl HE.out ?_)
  go_ret
  exact ⟨rfl, HM1.out.trans KZ.out.mods (by simp)⟩
end Go.Proofs.YtlgoeipgmjcboaaGreatDoor
