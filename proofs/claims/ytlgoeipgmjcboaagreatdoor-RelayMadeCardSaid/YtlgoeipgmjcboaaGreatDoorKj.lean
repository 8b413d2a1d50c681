/- New. | New: a relay is made. -/
import Derived.Test.YtlgoeipgmjcboaaGreatDoorKh
namespace Go.Proofs.YtlgoeipgmjcboaaGreatDoor
open Go.RowKit Me
def newOk (clients : Int) (msize : Nat) (fids tags : Int) : Prop := (1 ≤ clients ∧ clients ≤ 16) ∧ (512 ≤ msize ∧ msize ≤ 65536) ∧ (1 ≤ fids ∧ fids ≤ 256) ∧ (1 ≤ tags ∧ tags ≤ 64)
theorem within_any (n lo hi : Int) (w : World) : Calls Tryz.prog 26 #[.int .i64 n, .int .i64 lo, .int .i64 hi] w fun e w' => e = .returned (.bool (decide (lo ≤ n ∧ n ≤ hi))) ∧ w' = w := by
  by_cases h1 : lo ≤ n
  · have b1 : decide (lo ≤ n) = true := by simpa using h1
    by_cases h2 : n ≤ hi
    · have b2 : decide (n ≤ hi) = true := by simpa using h2
      have HB : Hid (decide (lo ≤ n ∧ n ≤ hi) = true) := Lib.hid (by simp [h1, h2])
      go_enter Tryz.func26, Tryz.ntmps26
      go_wp2_with fail
      go_ret
      exact ⟨by first | rfl | (rw [HB.out]; rfl), rfl⟩
    · have b2 : decide (n ≤ hi) = false := by simpa using h2
      have HB : Hid (decide (lo ≤ n ∧ n ≤ hi) = false) := Lib.hid (by simp [h2])
      go_enter Tryz.func26, Tryz.ntmps26
      go_wp2_with fail
      go_ret
      exact ⟨by first | rfl | (rw [HB.out]; rfl), rfl⟩
  · have b1 : decide (lo ≤ n) = false := by simpa using h1
    have HB : Hid (decide (lo ≤ n ∧ n ≤ hi) = false) := Lib.hid (by simp [h1])
    go_enter Tryz.func26, Tryz.ntmps26
    go_wp2_with fail
    go_ret
    exact ⟨by first | rfl | (rw [HB.out]; rfl), rfl⟩
set_option maxRecDepth 100000 in
set_option maxHeartbeats 4000000 in
theorem new_bad {clients : Int} {msize : Nat} {fids tags : Int} (h : ¬ newOk clients msize fids tags) (hms : msize < 4294967296) (w : World) :
    Calls Tryz.prog 7 #[.int .i64 clients, .int .u32 (msize : Int), .int .i64 fids, .int .i64 tags] w fun e w' => e = .returned (.tuple #[.pointer none, .int .i64 1]) ∧ w' = w := by
  have H := Lib.hid h
  have HA := Lib.hid (within_any clients 1 16 w)
  have HB := Lib.hid (within_any (msize : Int) 512 65536 w)
  have HC := Lib.hid (within_any fids 1 256 w)
  have HD := Lib.hid (within_any tags 1 64 w)
  clear h
  by_cases h1 : 1 ≤ clients ∧ clients ≤ 16
  · rw [show decide (1 ≤ clients ∧ clients ≤ 16) = true from by simpa using h1] at HA
    by_cases h2 : (512 : Int) ≤ msize ∧ (msize : Int) ≤ 65536
    · rw [show decide ((512 : Int) ≤ msize ∧ (msize : Int) ≤ 65536) = true from by simpa using h2] at HB
      by_cases h3 : 1 ≤ fids ∧ fids ≤ 256
      · rw [show decide (1 ≤ fids ∧ fids ≤ 256) = true from by simpa using h3] at HC
        have h4 : ¬ (1 ≤ tags ∧ tags ≤ 64) := fun h4 => H.out ⟨h1, ⟨by omega, by omega⟩, h3, h4⟩
        rw [show decide (1 ≤ tags ∧ tags ≤ 64) = false from by simpa using h4] at HD
        clear h1 h2 h3 h4
        go_enter Tryz.func7, Tryz.ntmps7
        go_wp2_with fail
        refine HA.out.mono ?_; rintro e w' ⟨rfl, rfl⟩
        go_wp2_with fail
        refine HB.out.mono ?_; rintro e w' ⟨rfl, rfl⟩
        go_wp2_with fail
        refine HC.out.mono ?_; rintro e w' ⟨rfl, rfl⟩
        go_wp2_with fail
        refine HD.out.mono ?_; rintro e w' ⟨rfl, rfl⟩
        go_wp2_with fail
        go_ret2
        exact ⟨rfl, rfl⟩
      · rw [show decide (1 ≤ fids ∧ fids ≤ 256) = false from by simpa using h3] at HC
        clear h1 h2 h3
        go_enter Tryz.func7, Tryz.ntmps7
        go_wp2_with fail
        refine HA.out.mono ?_; rintro e w' ⟨rfl, rfl⟩
        go_wp2_with fail
        refine HB.out.mono ?_; rintro e w' ⟨rfl, rfl⟩
        go_wp2_with fail
        refine HC.out.mono ?_; rintro e w' ⟨rfl, rfl⟩
        go_wp2_with fail
        go_ret2
        exact ⟨rfl, rfl⟩
    · rw [show decide ((512 : Int) ≤ msize ∧ (msize : Int) ≤ 65536) = false from by simpa using h2] at HB
      clear h1 h2
      go_enter Tryz.func7, Tryz.ntmps7
      go_wp2_with fail
      refine HA.out.mono ?_; rintro e w' ⟨rfl, rfl⟩
      go_wp2_with fail
      refine HB.out.mono ?_; rintro e w' ⟨rfl, rfl⟩
      go_wp2_with fail
      go_ret2
      exact ⟨rfl, rfl⟩
  · rw [show decide (1 ≤ clients ∧ clients ≤ 16) = false from by simpa using h1] at HA
    clear h1
    go_enter Tryz.func7, Tryz.ntmps7
    go_wp2_with fail
    refine HA.out.mono ?_; rintro e w' ⟨rfl, rfl⟩
    go_wp2_with fail
    go_ret2
    exact ⟨rfl, rfl⟩
theorem new_wf {N msize fids tags : Nat} (h : newOk N msize fids tags) : (RelP.new N msize fids tags).Wf := by
  obtain ⟨h1, h2, h3, h4⟩ := h
  refine ⟨h2, ⟨by show 1 ≤ fids; omega, by show fids ≤ 256; omega⟩, ⟨by show 1 ≤ tags; omega, by show tags ≤ 64; omega⟩, ?_, fun c hc => ?_, fun l hl => (by cases hl), List.Pairwise.nil, fun q hq => (by cases hq), List.Pairwise.nil, fun q hq => (by cases hq)⟩
  · show 1 ≤ (List.replicate N CliP.none).length ∧ (List.replicate N CliP.none).length ≤ 16
    rw [List.length_replicate]
    omega
  · obtain rfl := List.eq_of_mem_replicate hc
    exact none_ok
def ptrC (b : Nat) : Value := .pointer (some ⟨b, 0, none⟩)
def newG (F : List Nat) (cs : List Nat) (gc cc mb ub : Nat) : Gh := ⟨F, fun _ => 0, fun _ => 0, fun i => cs.getD i 0, gc, cc, mb, ub⟩
/-- The relay as it is made, so far: k clients. -/
structure Fresh (w0 : World) (r mb ub msize fids tags : Nat) (cs : List Nat) (v : Value) (w : World) : Prop where
  row : w.heap[r]? = some (.cells #[.int .u32 (msize : Int), .int .i64 (fids : Int), .int .i64 (tags : Int), v, .map (some mb), .map (some ub), .slice none 0 0] 81 (0, 0))
  own : w.ownsRow w0.heap.size 82 1 v cs.length (cs.map ptrC)
  cli : ∀ b ∈ cs, w0.heap.size ≤ b ∧ w.heap[b]? = some (.cells #[.int .u32 0, .bool false, .pointer none] 85 (0, 0))
  nodup : cs.Nodup
  links : PMap KP w mb []
  under : PMap KU w ub []
  new : w0.heap.size ≤ r ∧ w0.heap.size ≤ mb ∧ w0.heap.size ≤ ub ∧ mb ≠ ub
  mods : Mods [] w0 w
theorem pmap_is {P : Program} {k : TypeId} {α : Type} {K : KB P k α} {w : World} {b : Nat} {M : List (α × Nat)} (h : PMap K w b M) : ∃ es c, w.heap[b]? = some (.map es c) := by
  obtain ⟨D, ⟨es, clock, h1, _⟩, _⟩ := h
  exact ⟨es, clock, h1⟩
theorem Fresh.rel {w0 w : World} {r mb ub msize fids tags N : Nat} {cs : List Nat} {v : Value} (h : Fresh w0 r mb ub msize fids tags cs v w) (hN : cs.length = N) (hok : newOk N msize fids tags) :
    ∃ G, IsRel w r (RelP.new N msize fids tags) (RelP.new N msize fids tags).used G nilS ∧ ∀ k ∈ G.F, w0.heap.size ≤ k := by
  rcases h.own.2 with ⟨-, hz⟩ | ⟨gc, cap, cur, rfl, hb, hg, hn, hc, hcur⟩
  · have := hok.1.1
    omega
  · have hlen : (RelP.new N msize fids tags).clients.length = N := List.length_replicate
    have hlt : ∀ {j : Nat} {o : Obj}, w.heap[j]? = some o → j < w.heap.size := fun hj => (Array.getElem?_eq_some_iff.1 hj).1
    obtain ⟨es1, c1, hm1⟩ := pmap_is h.links
    obtain ⟨es2, c2, hm2⟩ := pmap_is h.under
    have hcb : ∀ i, i < N → ∃ b, cs[i]? = some b ∧ cs.getD i 0 = b := fun i hi => by
      refine ⟨cs[i]'(by omega), List.getElem?_eq_getElem (by omega), ?_⟩
      rw [List.getD_eq_getElem?_getD, List.getElem?_eq_getElem (by omega)]
      rfl
    refine ⟨newG (r :: mb :: ub :: gc :: cs) cs gc cap mb ub, ⟨new_wf hok, by simp [newG], fun k hk => ?_, by rw [hlen]; have := h.row; rw [hN] at this; exact this, ⟨by rw [hlen]; show N ≤ cap; omega, hc, cur, hg, fun i hi => ?_⟩, fun i c hi => ?_, fun i j hi hj e => ?_, h.links, fun l hl => (by cases hl), fun l hl => (by cases hl), h.under, fun q hq => (by cases hq), fun q hq => (by cases hq), h.new.2.2.2⟩, fun k hk => ?_⟩
    · simp [newG] at hk
      rcases hk with rfl | rfl | rfl | rfl | hk
      · exact hlt h.row
      · exact hlt hm1
      · exact hlt hm2
      · exact hlt hg
      · exact hlt (h.cli k hk).2
    · rw [hlen] at hi
      obtain ⟨b, e1, e2⟩ := hcb i hi
      show cur[i]? = some (.pointer (some ⟨cs.getD i 0, 0, none⟩))
      rw [e2]
      have h2 : (cs.map ptrC)[i]? = some (ptrC b) := by rw [List.getElem?_map, e1]; rfl
      rw [← hcur.2, List.getElem?_take] at h2
      split at h2
      · rw [← Array.getElem?_toList]
        exact h2
      · cases h2
    · have hi' : i < N := by
        have := (List.getElem?_eq_some_iff.1 hi).1
        rw [hlen] at this
        exact this
      obtain ⟨b, e1, e2⟩ := hcb i hi'
      have hcn : c = CliP.none := by
        have : (List.replicate N CliP.none)[i]? = some c := hi
        exact List.eq_of_mem_replicate (List.mem_of_getElem? this)
      subst hcn
      refine ⟨by show cs.getD i 0 ∈ r :: mb :: ub :: gc :: cs; rw [e2]; simp [List.mem_of_getElem? e1], none, ?_, fun e => (by cases e), fun e => (by cases e)⟩
      show w.heap[cs.getD i 0]? = _
      rw [e2]
      exact (h.cli b (List.mem_of_getElem? e1)).2
    · rw [hlen] at hi hj
      obtain ⟨b, e1, e2⟩ := hcb i hi
      obtain ⟨b', e1', e2'⟩ := hcb j hj
      change cs.getD i 0 = cs.getD j 0 at e
      rw [e2, e2'] at e
      subst e
      exact (List.getElem?_inj (by omega) h.nodup).1 (e1.trans e1'.symm)
    · simp [newG] at hk
      rcases hk with rfl | rfl | rfl | rfl | hk
      · exact h.new.1
      · exact h.new.2.1
      · exact h.new.2.2.1
      · exact hb
      · exact (h.cli k hk).1
theorem info82 : (Tryz.prog.info? 82).map (fun i => (i.zero, i.size, i.bytes)) = some (some (.pointer none), 1, 8) := by kernel_rfl
end Go.Proofs.YtlgoeipgmjcboaaGreatDoor
namespace Go.Proofs.YtlgoeipgmjcboaaGreatDoor
open Go.RowKit Me
theorem Fresh.more {w0 w w3 : World} {r mb ub msize fids tags c : Nat} {cs : List Nat} {v v' : Value} (h : Fresh w0 r mb ub msize fids tags cs v w) (hm : Mods v.ownBlock.toList w w3) (hc : c = w.heap.size) (hcr : w3.heap[c]? = some (.cells #[.int .u32 0, .bool false, .pointer none] 85 (0, 0)))
    (hown : w3.ownsRow w0.heap.size 82 1 v' (cs.length + 1) (cs.map ptrC ++ [ptrC c])) : Fresh w0 r mb ub msize fids tags (cs ++ [c]) v' (w3.setCell ⟨r, 3, none⟩ v') := by
  have hnr : v.ownBlock ≠ some r := ownsRow_not h.own h.row (by decide)
  have hrow3 := hm.heap h.row (by simpa using hnr)
  have hnr' : v'.ownBlock ≠ some r := ownsRow_not hown hrow3 (by decide)
  have hms : Mods [r] w3 (w3.setCell ⟨r, 3, none⟩ v') := (Mods.refl [r] w3).setCell (p := ⟨r, 3, none⟩) (Or.inl (by simp)) _
  have hlt : ∀ {j : Nat} {o : Obj}, w.heap[j]? = some o → j < w.heap.size := fun hj => (Array.getElem?_eq_some_iff.1 hj).1
  have hmap : ∀ {b es n}, w.heap[b]? = some (.map es n) → b ∉ v.ownBlock.toList := fun {b es n} hb hk => by
    rcases h.own.2 with ⟨e, -⟩ | ⟨g, cap, cur, e, -, hg, -⟩
    · subst e
      simp [Value.ownBlock] at hk
    · subst e
      simp [Value.ownBlock] at hk
      subst hk
      rw [hb] at hg
      cases hg
  have hmr : ∀ {b es n}, w.heap[b]? = some (.map es n) → b ∉ [r] := fun {b es n} hb hk => by
    simp at hk
    subst hk
    rw [h.row] at hb
    cases hb
  obtain ⟨es1, c1, hm1⟩ := pmap_is h.links
  obtain ⟨es2, c2, hm2⟩ := pmap_is h.under
  refine ⟨heap_setCell_same _ _ _ _ _ _ hrow3, ?_, fun b hb => ?_, ?_, (h.links.mods hm (hmap hm1)).mods hms (hmr hm1), (h.under.mods hm (hmap hm2)).mods hms (hmr hm2), h.new, ?_⟩
  · rw [List.length_append, List.map_append]
    exact ownsRow_set hown (a := ⟨r, 3, none⟩) hnr' v'
  · rcases List.mem_append.1 hb with hb | hb
    · obtain ⟨e1, e2⟩ := h.cli b hb
      refine ⟨e1, setOff hrow3 (hm.heap e2 (fun hk => ?_)) (by decide) v'⟩
      exact ownsRow_not h.own e2 (by decide) (by simpa using hk)
    · simp at hb
      subst hb
      exact ⟨by have := h.mods.size; omega, setOff hrow3 hcr (by decide) v'⟩
  · rw [List.nodup_append]
    refine ⟨h.nodup, by simp, fun a ha b hb e => ?_⟩
    simp at hb
    subst hb e
    have := hlt (h.cli a ha).2
    omega
  · refine (h.mods.trans (hm.mono (G := v.ownBlock.toList) (fun k hk => Or.inl hk)) (fun b hb => ?_)).trans hms (fun b hb => ?_)
    · exact Or.inr (h.own.lt b (by simpa using hb)).1
    · simp at hb
      subst hb
      exact Or.inr h.new.1
set_option maxRecDepth 100000 in
set_option maxHeartbeats 4000000 in
theorem new_any {N msize fids tags : Nat} (h : newOk N msize fids tags) (w : World) :
    Calls Tryz.prog 7 #[.int .i64 (N : Int), .int .u32 (msize : Int), .int .i64 (fids : Int), .int .i64 (tags : Int)] w fun e w' => ∃ r G, e = .returned (.tuple #[.pointer (some ⟨r, 0, none⟩), .int .i64 0]) ∧ IsRel w' r (RelP.new N msize fids tags) (RelP.new N msize fids tags).used G nilS ∧ (∀ k ∈ G.F, w.heap.size ≤ k) ∧ Mods [] w w' := by
  have H := Lib.hid h
  have hmm := @run_makeMap Tryz.prog
  have HA := Lib.hid (within_any (N : Int) 1 16 w)
  have HB := Lib.hid (within_any (msize : Int) 512 65536 w)
  have HC := Lib.hid (within_any (fids : Int) 1 256 w)
  have HD := Lib.hid (within_any (tags : Int) 1 64 w)
  rw [show decide ((1 : Int) ≤ (N : Int) ∧ (N : Int) ≤ 16) = true from by simpa using h.1] at HA
  rw [show decide ((512 : Int) ≤ (msize : Int) ∧ (msize : Int) ≤ 65536) = true from by have := h.2.1; simp; omega] at HB
  rw [show decide ((1 : Int) ≤ (fids : Int) ∧ (fids : Int) ≤ 256) = true from by simpa using h.2.2.1] at HC
  rw [show decide ((1 : Int) ≤ (tags : Int) ∧ (tags : Int) ≤ 64) = true from by simpa using h.2.2.2] at HD
  have hms : msize < 4294967296 := by
    have := h.2.1.2
    omega
  have hN : N ≤ 16 := by
    have := h.1.2
    omega
  obtain ⟨i0, hi, hz0, hz1, hz2⟩ := info_parts info82
  clear h
  go_enter Tryz.func7, Tryz.ntmps7
  go_wp2_with fail
  refine HA.out.mono ?_; rintro e w' ⟨rfl, rfl⟩
  go_wp2_with fail
  refine HB.out.mono ?_; rintro e w' ⟨rfl, rfl⟩
  go_wp2_with fail
  refine HC.out.mono ?_; rintro e w' ⟨rfl, rfl⟩
  go_wp2_with fail
  refine HD.out.mono ?_; rintro e w' ⟨rfl, rfl⟩
  go_wp2_with fail
  have HF0 : Hid (Fresh w' (w'.heap.size + 2) w'.heap.size (w'.heap.size + 1) msize fids tags [] (.slice none 0 0) (((w'.alloc (.map #[] 0)).alloc (.map #[] 0)).alloc (.cells #[.int .u32 (msize : Int), .int .i64 (fids : Int), .int .i64 (tags : Int), .slice none 0 0, .map (some w'.heap.size), .map (some (w'.heap.size + 1)), .slice none 0 0] 81))) := Lib.hid (by
    have m1 := (Mods.refl [] w').alloc (.map #[] 0)
    have m2 := (Mods.refl [] (w'.alloc (.map #[] 0))).alloc (.map #[] 0)
    have m3 := (Mods.refl [] ((w'.alloc (.map #[] 0)).alloc (.map #[] 0))).alloc (.cells #[.int .u32 (msize : Int), .int .i64 (fids : Int), .int .i64 (tags : Int), .slice none 0 0, .map (some w'.heap.size), .map (some (w'.heap.size + 1)), .slice none 0 0] 81)
    have z1 : (w'.alloc (.map #[] 0)).heap.size = w'.heap.size + 1 := by simp
    have z2 : ((w'.alloc (.map #[] 0)).alloc (.map #[] 0)).heap.size = w'.heap.size + 2 := by simp
    have p2 := PMap.start KU (w'.alloc (.map #[] 0))
    rw [z1] at p2
    have r3 := heap_alloc_new ((w'.alloc (.map #[] 0)).alloc (.map #[] 0)) (.cells #[.int .u32 (msize : Int), .int .i64 (fids : Int), .int .i64 (tags : Int), .slice none 0 0, .map (some w'.heap.size), .map (some (w'.heap.size + 1)), .slice none 0 0] 81)
    rw [z2] at r3
    exact ⟨r3, ⟨rfl, Or.inl ⟨rfl, rfl⟩⟩, by simp, List.nodup_nil, ((PMap.start KP w').mods m2 (by simp)).mods m3 (by simp), p2.mods m3 (by simp), ⟨by omega, by omega, by omega, by omega⟩, (m1.trans m2 (by simp)).trans m3 (by simp)⟩)
  generalize hwC : ((w'.alloc (.map #[] 0)).alloc (.map #[] 0)).alloc (.cells #[.int .u32 (msize : Int), .int .i64 (fids : Int), .int .i64 (tags : Int), .slice none 0 0, .map (some w'.heap.size), .map (some (w'.heap.size + 1)), .slice none 0 0] 81) = wC at *
  generalize hr : w'.heap.size + 2 = r at *
  generalize hu : w'.heap.size + 1 = ub at *
  generalize hmb : w'.heap.size = mb at *
  clear hmm hwC hr hu
  go_loopw [43] (fun i wr => ∃ k : Nat, k ≤ N ∧ i = .int .i64 k ∧ ∃ (cs : List Nat) (v : Value), cs.length = k ∧ Fresh w' r mb ub msize fids tags cs v wr) (fun i _ => N - (intOf i).toNat)
  case atStart => exact ⟨0, by omega, rfl, [], _, rfl, HF0.out⟩
  case round =>
    obtain ⟨k, hk, rfl, cs, v, hlen, hf⟩ := hrel
    have HF := Lib.hid hf
    rcases Nat.lt_or_ge k N with hlt | hge
    · obtain ⟨A, c, rfl, -⟩ := ownsRow_slice hf.own
      have c3 : wr.cell? ⟨r, 3, none⟩ = some (.slice A cs.length c) := by rw [cell_of_row _ _ _ _ _ _ hf.row]; rfl
      have hsz := hf.mods.size
      have HLEN := Lib.hid hlen
      have hlen16 : cs.length ≤ 16 := by omega
      have hsrc := src_one Tryz.underlying79 (wr.alloc (.cells #[.int .u32 0, .bool false, .pointer none] 85)) (ptrC wr.heap.size) 82 rfl
      rw [show (wr.alloc (.cells #[.int .u32 0, .bool false, .pointer none] 85)).heap.size = wr.heap.size + 1 from by simp] at hsrc
      have HSRC := Lib.hid hsrc
      clear hf hlen hsrc
      go_wp2_with (at_builtin; go_must (refine wpList_app _ rfl _ _ 79 79 rfl w'.heap.size 82 i0 (.pointer none) 1 8 Tryz.underlying79 hi hz0 hz1 hz2 rfl _ _ _ rfl ((HF.out.own.alloc _).alloc _) _ 1 [ptrC wr.heap.size] rfl HSRC.out (by unfold maxLen; omega) (by omega) (by simp; omega) ?_))
      intro v' w3 hown hgrow hat
      obtain ⟨A', c', rfl, -⟩ := ownsRow_slice hown
      have hm1 : Mods [] wr (wr.alloc (.cells #[.int .u32 0, .bool false, .pointer none] 85)) := (Mods.refl [] wr).alloc _
      have hm3 : Mods (Value.slice A cs.length c).ownBlock.toList (wr.alloc (.cells #[.int .u32 0, .bool false, .pointer none] 85)) w3 := ((Mods.refl _ (wr.alloc (.cells #[.int .u32 0, .bool false, .pointer none] 85))).alloc _).grown hgrow (fun k hk => Or.inl (by simp [hk]))
      have hcr := hm3.heap (heap_alloc_new wr (.cells #[.int .u32 0, .bool false, .pointer none] 85)) (fun hk => by
        have := (HF.out.own.lt _ (by simpa using hk)).2
        omega)
      have hmw : Mods (Value.slice A cs.length c).ownBlock.toList wr w3 := (hm1.mono (by simp)).trans hm3 (fun k hk => Or.inl hk)
      have hrow3 := hmw.heap HF.out.row (by simpa using ownsRow_not HF.out.own HF.out.row (by decide))
      have d3 : w3.cell? ⟨r, 3, none⟩ = some (.slice A cs.length c) := by rw [cell_of_row _ _ _ _ _ _ hrow3]; rfl
      have f3 : w3.frozen? ⟨r, 3, none⟩ = false := frozen_of_row _ _ _ _ _ hrow3
      have HFM := Lib.hid (HF.out.more hmw rfl hcr (by rw [hmb]; exact hown))
      clear hown hgrow hat hm1 hm3 hcr hmw hrow3 c3
      go_wp2_with fail
      exact ⟨⟨k + 1, by omega, by simp, _, _, by rw [List.length_append, HLEN.out]; rfl, HFM.out⟩, by simp [intOf]; omega⟩
    · obtain rfl : k = N := by omega
      obtain ⟨G, hG, hF⟩ := hf.rel hlen H.out
      have HG := Lib.hid hG
      have HFF := Lib.hid hF
      clear hf hG hF hlen
      go_wp2_with fail
      go_ret2
      exact ⟨r, G, rfl, HG.out, HFF.out, HF.out.mods⟩
end Go.Proofs.YtlgoeipgmjcboaaGreatDoor
