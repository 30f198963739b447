/-
  One call of a net, beside a list that need not be its own: a letter is taken; all calls.
-/
import Derived.Test.YtofmblkmfbioiaaN37
namespace Go.Proofs.Ytofmblkmfbioiaa
open Go.RowKit
set_option maxRecDepth 100000 in
set_option maxHeartbeats 4000000 in
theorem stepG2ai (w : World) (p : Nat) (lv : Value) (ds : List Value) (ls : List Let) (sent : Int) (ms : List Let) (h : NetAt w p lv ds ms sent) (hn : ms.length < 1024) (hnl : ls.length < 1024) (hx : ∀ j, j < ms.length → (ms.getD j default).2.2.length ≤ 1000000) (xv : Value) (hX : XAt w 0 xv ls) (a f t : Int) (d : Value) (xs : List Int) (hd : SlB w d xs) (hnx : xs.length ≤ 1000) (ha : a < 0) (hm : atI ms a = true) :
    Calls Try.prog 15 #[.pointer (some ⟨p, 0, none⟩), xv, .agg #[.int .i64 2, .int .i64 a, .int .i64 f, .int .i64 t, d]] w (StepG p lv xv ls (stepI ms 2 a f t xs) (sent + stepS 2 f t) w) := by
  obtain ⟨Ax, cx, rfl⟩ := own_shape hX
  obtain ⟨A, c, rfl, hl1, hl2⟩ := hd.shape
  rw [stepS_not (show (2 : Int) ≠ 1 by decide), Int.add_zero]
  obtain ⟨W7, hW7⟩ : ∃ W, W = w.alloc (.cells #[.int .i64 2, .int .i64 a, .int .i64 f, .int .i64 t, .slice A xs.length c] 36) := ⟨_, rfl⟩
  have hu7 : Up w W7 := by rw [hW7]; exact (Chg.refl _ w).alloc _
  have ho7 : W7.heap[w.heap.size]? = some (.cells #[.int .i64 2, .int .i64 a, .int .i64 f, .int .i64 t, .slice A xs.length c] 36 (0, 0)) := by rw [hW7]; exact heap_alloc_last w _
  have hlt : w.heap.size < W7.heap.size := (Array.getElem?_eq_some_iff.1 ho7).1
  have hout : ¬ (w.heap.size = p ∨ lv.ownBlock = some w.heap.size) := fun hs => by
    rcases hs with hs | hs
    · have := (Array.getElem?_eq_some_iff.1 h.obj).1; omega
    · have := own_lt h.row _ hs; omega
  have e0 : stepI ms 2 a f t xs = ms.eraseIdx a.toNat := by unfold stepI; rw [if_neg (by decide), if_pos rfl, if_pos hm]
  have HC := Lib.hid (take_any W7 p lv ds ms sent a (h.up hu7) (by omega))
  have HN := Lib.hid h
  have HX := Lib.hid hX
  have HD := Lib.hid hd
  have HU7 := Lib.hid hu7
  have HO7 := Lib.hid ho7
  have HW7 := Lib.hid hW7
  have HM := Lib.hid hm
  have HE0 := Lib.hid e0
  have HOUT := Lib.hid hout
  clear h hX hd hu7 ho7 hW7 hm hx e0 hout hlt
  rw [HE0.out]
  go_enter Try.func15, Try.ntmps15
  go_wp2_with fail
  rw [← HW7.out]
  refine HC.out.mono ?_
  intro e W8 hdp
  rcases hdp with ⟨hat, _⟩ | ⟨_, d1, rfl, hd1, lv1, hn1, hl1, hc1⟩
  · rw [HM.out] at hat; cases hat
  have hlb : ∀ g, lv1.ownBlock = some g → lv.ownBlock = some g ∨ w.heap.size ≤ g := fun g hg => .inl (hl1 ▸ hg)
  obtain ⟨y, hye⟩ : ∃ y, ms.getD a.toNat default = y := ⟨_, rfl⟩
  rw [hye] at hd1 ⊢
  obtain ⟨f', t', xs'⟩ := y
  dsimp only at hd1 ⊢
  obtain ⟨A', c', rfl⟩ := own_shape hd1
  have HD1 := Lib.hid hd1
  clear hye hd1
  have hcw : Chg (fun i => i = p ∨ lv.ownBlock = some i) w W8 := (HU7.out.mono (fun _ _ h => h.elim)).then hc1 (fun i hi => .inl hi)
  have ho8 := hc1.heap HO7.out HOUT.out
  have hx8 := HX.out.net HN.out hcw
  have HN1 := Lib.hid hn1
  have HLB := Lib.hid (show ∀ g, lv1.ownBlock = some g → lv.ownBlock = some g ∨ w.heap.size ≤ g from hlb)
  have HCW := Lib.hid hcw
  have HX8 := Lib.hid hx8
  have HO8 := Lib.hid ho8
  clear hcw ho8 hx8 hn1 hlb hc1
  go_wp2_with fail
  obtain ⟨W9, hW9⟩ : ∃ W, W = W8.alloc (.cells #[.int .i64 f', .int .i64 t', .slice A' xs'.length c'] 29) := ⟨_, rfl⟩
  obtain ⟨g14, hg14⟩ : ∃ g, g = W8.heap.size := ⟨_, rfl⟩
  rw [← hW9, ← hg14]
  have hl9 : W9.heap[g14]? = some (.cells #[.int .i64 f', .int .i64 t', .slice A' xs'.length c'] 29 (0, 0)) := by rw [hW9, hg14]; exact heap_alloc_last _ _
  have hu9 : Up W8 W9.drew := by rw [hW9]; exact ((Chg.refl _ _).alloc _).drew
  have L0 : Hid (W9.drew.cell? ⟨g14, 0, none⟩ = some (.int .i64 f')) := Lib.hid (cell_of_row W9 g14 0 _ _ _ hl9)
  have L1 : Hid (W9.drew.cell? ⟨g14, 1, none⟩ = some (.int .i64 t')) := Lib.hid (cell_of_row W9 g14 1 _ _ _ hl9)
  have L2 : Hid (W9.drew.cell? ⟨g14, 2, none⟩ = some (.slice A' xs'.length c')) := Lib.hid (cell_of_row W9 g14 2 _ _ _ hl9)
  have HD9 : Hid (SlB W9.drew (.slice A' xs'.length c') xs') := Lib.hid (DatB.slb (HD1.out.chg hu9 (fun _ _ _ h => h.elim)))
  obtain ⟨st, hst⟩ : ∃ s, strOfNums xs' = s := ⟨_, rfl⟩
  have HST := Lib.hid hst
  clear hst
  have HU9 := Lib.hid hu9
  clear hl9 hu9 hW9 hg14
  refine MT.region_mono Up [fun v _ => v = .slice Ax ls.length cx,
      fun v _ => v = .int .i64 0,
      fun v _ => v = .int .i64 11,
      fun v _ => v = .bool false,
      fun v _ => v = .bool false,
      fun _ _ => True,
      fun _ _ => True,
      fun _ _ => True,
      fun _ _ => True,
      fun v _ => v = .bool false,
      fun v _ => v = .slice Ax ls.length cx] (by kernel_rfl) (by kernel_rfl) (Chg.refl _) (fun _ _ _ => Chg.trans) (by simp) ?_ ?_ ?_
  · simp only [List.forall_mem_cons]
    exact ⟨fun _ _ _ _ _ h => h, fun _ _ _ _ _ h => h, fun _ _ _ _ _ h => h, fun _ _ _ _ _ h => h, fun _ _ _ _ _ h => h, fun _ _ _ _ _ h => h, fun _ _ _ _ _ h => h, fun _ _ _ _ _ h => h, fun _ _ _ _ _ h => h, fun _ _ _ _ _ h => h, fun _ _ _ _ _ h => h, by simp⟩
  · refine ⟨?_, ?_, ?_, ?_, ?_, ?_, ?_, ?_, ?_, ?_, ?_, trivial⟩
    · intro ρ w1 hw h0 hc hg hf hd
      have s1 : ρ (.tmp 1) = .slice Ax ls.length cx := h0 1 (by kernel_rfl)
      refine ⟨fun _ => ?_, fun h => by cases h⟩
      clear h0 hg hd
      exact gives_move rfl ⟨Chg.refl _ _, s1⟩
    · intro ρ w1 hw h0 hc hg hf hd
      have s15 : ρ (.tmp 15) = .int .i64 0 := h0 15 (by kernel_rfl)
      refine ⟨fun _ => ?_, fun h => by cases h⟩
      clear h0 hg hd
      exact gives_move rfl ⟨Chg.refl _ _, s15⟩
    · intro ρ w1 hw h0 hc hg hf hd
      have s9 : ρ (.tmp 9) = .int .i64 11 := h0 9 (by kernel_rfl)
      refine ⟨fun _ => ?_, fun h => by cases h⟩
      clear h0 hg hd
      exact gives_move rfl ⟨Chg.refl _ _, s9⟩
    · intro ρ w1 hw h0 hc hg hf hd
      have d1 := hd ⟨1, .data⟩ (by simp) rfl _ _ _ rfl rfl rfl
      have d2 := hd ⟨2, .data⟩ (by simp) rfl _ _ _ rfl rfl rfl
      refine ⟨fun _ => ?_, fun h => by cases h⟩
      clear h0 hg hd
      clear hf
      refine Gives.value (w' := w1) ?_ ⟨Chg.refl _ _, rfl⟩
      go_simp
    · intro ρ w1 hw h0 hc hg hf hd
      have d3 := hd ⟨3, .data⟩ (by simp) rfl _ _ _ rfl rfl rfl
      refine ⟨fun _ => ?_, fun h => by cases h⟩
      clear h0 hg hd
      exact gives_move rfl ⟨Chg.refl _ _, d3⟩
    · intro ρ w1 hw h0 hc hg hf hd
      have d4 := hd ⟨4, .guard⟩ (by simp) rfl _ _ _ rfl rfl rfl
      exact ⟨fun hx => (by rw [wantedBy_false rfl rfl rfl d4] at hx; cases hx), fun _ => trivial⟩
    · intro ρ w1 hw h0 hc hg hf hd
      have d4 := hd ⟨4, .guard⟩ (by simp) rfl _ _ _ rfl rfl rfl
      exact ⟨fun hx => (by rw [wantedBy_false rfl rfl rfl d4] at hx; cases hx), fun _ => trivial⟩
    · intro ρ w1 hw h0 hc hg hf hd
      have d4 := hd ⟨4, .guard⟩ (by simp) rfl _ _ _ rfl rfl rfl
      exact ⟨fun hx => (by rw [wantedBy_false rfl rfl rfl d4] at hx; cases hx), fun _ => trivial⟩
    · intro ρ w1 hw h0 hc hg hf hd
      have d4 := hd ⟨4, .guard⟩ (by simp) rfl _ _ _ rfl rfl rfl
      exact ⟨fun hx => (by rw [wantedBy_false rfl rfl rfl d4] at hx; cases hx), fun _ => trivial⟩
    · intro ρ w1 hw h0 hc hg hf hd
      have d4 := hd ⟨4, .data⟩ (by simp) rfl _ _ _ rfl rfl rfl
      have d8 := hd ⟨8, .data⟩ (by simp) rfl _ _ _ rfl rfl rfl
      refine ⟨fun _ => ?_, fun h => by cases h⟩
      clear h0 hg hd
      clear hf
      refine Gives.value (w' := w1) ?_ ⟨Chg.refl _ _, rfl⟩
      go_simp
    · intro ρ w1 hw h0 hc hg hf hd
      have d0 := hd ⟨0, .data⟩ (by simp) rfl _ _ _ rfl rfl rfl
      refine ⟨fun _ => ?_, fun h => by cases h⟩
      clear h0 hg hd
      exact gives_assign rfl ⟨Chg.refl _ _, d0⟩
  · intro vs w9 hw hr
    have h9 := hr 9 _ rfl
    have h10 := hr 10 _ rfl
    clear hr
    dsimp only [putsL, restL]
    simp only [Act.put, List.setIfInBounds_toArray, List.set_cons_zero, List.set_cons_succ]
    rw [h9, h10]
    have HUW := Lib.hid (HU9.out.trans hw)
    clear hw h9 h10
    go_wp2_with fail
    go_ret2
    exact ⟨_, _, lv1, _, rfl, HN1.out.up HUW.out, own_chg HX8.out HUW.out (fun _ _ h => h), ((HCW.out.then HUW.out (fun i hi => hi.elim))).mono (fun i _ hi => hi.imp id .inl), HLB.out⟩
set_option maxRecDepth 100000 in
set_option maxHeartbeats 4000000 in
theorem stepG2ao (w : World) (p : Nat) (lv : Value) (ds : List Value) (ls : List Let) (sent : Int) (ms : List Let) (h : NetAt w p lv ds ms sent) (hn : ms.length < 1024) (hnl : ls.length < 1024) (hx : ∀ j, j < ms.length → (ms.getD j default).2.2.length ≤ 1000000) (xv : Value) (hX : XAt w 0 xv ls) (a f t : Int) (d : Value) (xs : List Int) (hd : SlB w d xs) (hnx : xs.length ≤ 1000) (ha : a < 0) (hm : atI ms a = false) :
    Calls Try.prog 15 #[.pointer (some ⟨p, 0, none⟩), xv, .agg #[.int .i64 2, .int .i64 a, .int .i64 f, .int .i64 t, d]] w (StepG p lv xv ls (stepI ms 2 a f t xs) (sent + stepS 2 f t) w) := by
  obtain ⟨Ax, cx, rfl⟩ := own_shape hX
  obtain ⟨A, c, rfl, hl1, hl2⟩ := hd.shape
  rw [stepS_not (show (2 : Int) ≠ 1 by decide), Int.add_zero]
  obtain ⟨W7, hW7⟩ : ∃ W, W = w.alloc (.cells #[.int .i64 2, .int .i64 a, .int .i64 f, .int .i64 t, .slice A xs.length c] 36) := ⟨_, rfl⟩
  have hu7 : Up w W7 := by rw [hW7]; exact (Chg.refl _ w).alloc _
  have ho7 : W7.heap[w.heap.size]? = some (.cells #[.int .i64 2, .int .i64 a, .int .i64 f, .int .i64 t, .slice A xs.length c] 36 (0, 0)) := by rw [hW7]; exact heap_alloc_last w _
  have hlt : w.heap.size < W7.heap.size := (Array.getElem?_eq_some_iff.1 ho7).1
  have hout : ¬ (w.heap.size = p ∨ lv.ownBlock = some w.heap.size) := fun hs => by
    rcases hs with hs | hs
    · have := (Array.getElem?_eq_some_iff.1 h.obj).1; omega
    · have := own_lt h.row _ hs; omega
  have e0 : stepI ms 2 a f t xs = ms := stepI_not (by decide) hm
  have HC := Lib.hid (take_any W7 p lv ds ms sent a (h.up hu7) (by omega))
  have HN := Lib.hid h
  have HX := Lib.hid hX
  have HD := Lib.hid hd
  have HU7 := Lib.hid hu7
  have HO7 := Lib.hid ho7
  have HW7 := Lib.hid hW7
  have HM := Lib.hid hm
  have HE0 := Lib.hid e0
  have HOUT := Lib.hid hout
  clear h hX hd hu7 ho7 hW7 hm hx e0 hout hlt
  rw [HE0.out]
  go_enter Try.func15, Try.ntmps15
  go_wp2_with fail
  rw [← HW7.out]
  refine HC.out.mono ?_
  intro e W8 hdp
  rcases hdp with ⟨_, rfl, hu8⟩ | ⟨hat, _⟩
  case inr => rw [HM.out] at hat; cases hat
  have hcw : Chg (fun i => i = p ∨ lv.ownBlock = some i) w W8 := (HU7.out.trans hu8).mono (fun _ _ h => h.elim)
  have ho8 := hu8.heap HO7.out (fun h => h)
  have hx8 := HX.out.net HN.out hcw
  have HN1 := Lib.hid (HN.out.up (HU7.out.trans hu8))
  have HLB := Lib.hid (show ∀ g, lv.ownBlock = some g → lv.ownBlock = some g ∨ w.heap.size ≤ g from fun g hg => .inl hg)
  have HCW := Lib.hid hcw
  have HX8 := Lib.hid hx8
  have HO8 := Lib.hid ho8
  clear hcw ho8 hx8 hu8
  go_wp2_with fail
  obtain ⟨W9, hW9⟩ : ∃ W, W = W8.alloc (.cells #[.int .i64 0, .int .i64 0, .slice none 0 0] 29) := ⟨_, rfl⟩
  obtain ⟨g14, hg14⟩ : ∃ g, g = W8.heap.size := ⟨_, rfl⟩
  rw [← hW9, ← hg14]
  have hl9 : W9.heap[g14]? = some (.cells #[.int .i64 0, .int .i64 0, .slice none 0 0] 29 (0, 0)) := by rw [hW9, hg14]; exact heap_alloc_last _ _
  have hu9 : Up W8 W9.drew := by rw [hW9]; exact ((Chg.refl _ _).alloc _).drew
  have L2 : Hid (W9.drew.cell? ⟨g14, 2, none⟩ = some (.slice none 0 0)) := Lib.hid (cell_of_row W9 g14 2 _ _ _ hl9)
  have HU9 := Lib.hid hu9
  clear hl9 hu9 hW9 hg14
  refine MT.region_mono Up [fun v _ => v = .slice Ax ls.length cx,
      fun v _ => v = .int .i64 11,
      fun v _ => v = .int .i64 11,
      fun v _ => v = .bool true,
      fun v _ => v = .bool true,
      fun v _ => v = .pointer (some ⟨g14, 2, none⟩),
      fun v _ => v = .slice none 0 0,
      fun v _ => v = .int .i64 0,
      fun v _ => v = .bool true,
      fun v _ => v = .bool true,
      fun v _ => v = .slice Ax ls.length cx] (by kernel_rfl) (by kernel_rfl) (Chg.refl _) (fun _ _ _ => Chg.trans) (by simp) ?_ ?_ ?_
  · simp only [List.forall_mem_cons]
    exact ⟨fun _ _ _ _ _ h => h, fun _ _ _ _ _ h => h, fun _ _ _ _ _ h => h, fun _ _ _ _ _ h => h, fun _ _ _ _ _ h => h, fun _ _ _ _ _ h => h, fun _ _ _ _ _ h => h, fun _ _ _ _ _ h => h, fun _ _ _ _ _ h => h, fun _ _ _ _ _ h => h, fun _ _ _ _ _ h => h, by simp⟩
  · refine ⟨?_, ?_, ?_, ?_, ?_, ?_, ?_, ?_, ?_, ?_, ?_, trivial⟩
    · intro ρ w1 hw h0 hc hg hf hd
      have s1 : ρ (.tmp 1) = .slice Ax ls.length cx := h0 1 (by kernel_rfl)
      refine ⟨fun _ => ?_, fun h => by cases h⟩
      clear h0 hg hd
      exact gives_move rfl ⟨Chg.refl _ _, s1⟩
    · intro ρ w1 hw h0 hc hg hf hd
      have s15 : ρ (.tmp 15) = .int .i64 11 := h0 15 (by kernel_rfl)
      refine ⟨fun _ => ?_, fun h => by cases h⟩
      clear h0 hg hd
      exact gives_move rfl ⟨Chg.refl _ _, s15⟩
    · intro ρ w1 hw h0 hc hg hf hd
      have s9 : ρ (.tmp 9) = .int .i64 11 := h0 9 (by kernel_rfl)
      refine ⟨fun _ => ?_, fun h => by cases h⟩
      clear h0 hg hd
      exact gives_move rfl ⟨Chg.refl _ _, s9⟩
    · intro ρ w1 hw h0 hc hg hf hd
      have d1 := hd ⟨1, .data⟩ (by simp) rfl _ _ _ rfl rfl rfl
      have d2 := hd ⟨2, .data⟩ (by simp) rfl _ _ _ rfl rfl rfl
      refine ⟨fun _ => ?_, fun h => by cases h⟩
      clear h0 hg hd
      clear hf
      refine Gives.value (w' := w1) ?_ ⟨Chg.refl _ _, rfl⟩
      go_simp
    · intro ρ w1 hw h0 hc hg hf hd
      have d3 := hd ⟨3, .data⟩ (by simp) rfl _ _ _ rfl rfl rfl
      refine ⟨fun _ => ?_, fun h => by cases h⟩
      clear h0 hg hd
      exact gives_move rfl ⟨Chg.refl _ _, d3⟩
    · intro ρ w1 hw h0 hc hg hf hd
      have d4 := hd ⟨4, .guard⟩ (by simp) rfl _ _ _ rfl rfl rfl
      have s14 : ρ (.tmp 14) = .pointer (some ⟨g14, 0, none⟩) := h0 14 (by kernel_rfl)
      refine ⟨fun _ => ?_, fun h => by rw [wantedBy_true rfl rfl rfl d4] at h; cases h⟩
      clear d4
      clear h0 hg hd
      clear hf
      refine Gives.value (w' := w1) ?_ ⟨Chg.refl _ _, rfl⟩
      go_simp
    · intro ρ w1 hw h0 hc hg hf hd
      have d5 := hd ⟨5, .data⟩ (by simp) rfl _ _ _ rfl rfl rfl
      have d4 := hd ⟨4, .guard⟩ (by simp) rfl _ _ _ rfl rfl rfl
      refine ⟨fun _ => ?_, fun h => by rw [wantedBy_true rfl rfl rfl d4] at h; cases h⟩
      clear d4
      clear h0 hg hd
      clear hc hf
      have l0 := hw.cell L2.out (fun h => h)
      refine Gives.value (w' := w1) ?_ ⟨Chg.refl _ _, rfl⟩
      go_simp
    · intro ρ w1 hw h0 hc hg hf hd
      have d6 := hd ⟨6, .data⟩ (by simp) rfl _ _ _ rfl rfl rfl
      have d4 := hd ⟨4, .guard⟩ (by simp) rfl _ _ _ rfl rfl rfl
      refine ⟨fun _ => ?_, fun h => by rw [wantedBy_true rfl rfl rfl d4] at h; cases h⟩
      clear d4
      clear h0 hg hd
      clear hf
      refine Gives.value (w' := w1) ?_ ⟨Chg.refl _ _, rfl⟩
      go_simp
    · intro ρ w1 hw h0 hc hg hf hd
      have d7 := hd ⟨7, .data⟩ (by simp) rfl _ _ _ rfl rfl rfl
      have d4 := hd ⟨4, .guard⟩ (by simp) rfl _ _ _ rfl rfl rfl
      refine ⟨fun _ => ?_, fun h => by rw [wantedBy_true rfl rfl rfl d4] at h; cases h⟩
      clear d4
      clear h0 hg hd
      clear hf
      refine Gives.value (w' := w1) ?_ ⟨Chg.refl _ _, rfl⟩
      go_simp
    · intro ρ w1 hw h0 hc hg hf hd
      have d4 := hd ⟨4, .data⟩ (by simp) rfl _ _ _ rfl rfl rfl
      have d8 := hd ⟨8, .data⟩ (by simp) rfl _ _ _ rfl rfl rfl
      refine ⟨fun _ => ?_, fun h => by cases h⟩
      clear h0 hg hd
      clear hf
      refine Gives.value (w' := w1) ?_ ⟨Chg.refl _ _, rfl⟩
      go_simp
    · intro ρ w1 hw h0 hc hg hf hd
      have d0 := hd ⟨0, .data⟩ (by simp) rfl _ _ _ rfl rfl rfl
      refine ⟨fun _ => ?_, fun h => by cases h⟩
      clear h0 hg hd
      exact gives_assign rfl ⟨Chg.refl _ _, d0⟩
  · intro vs w9 hw hr
    have h9 := hr 9 _ rfl
    have h10 := hr 10 _ rfl
    clear hr
    dsimp only [putsL, restL]
    simp only [Act.put, List.setIfInBounds_toArray, List.set_cons_zero, List.set_cons_succ]
    rw [h9, h10]
    have HUW := Lib.hid (HU9.out.trans hw)
    clear hw h9 h10
    go_wp2_with fail
    go_ret2
    exact ⟨_, _, lv, ds, rfl, HN1.out.up HUW.out, own_chg HX8.out HUW.out (fun _ _ h => h), ((HCW.out.then HUW.out (fun i hi => hi.elim))).mono (fun i _ hi => hi.imp id .inl), HLB.out⟩
set_option maxRecDepth 100000 in
set_option maxHeartbeats 4000000 in
theorem stepG2bi (w : World) (p : Nat) (lv : Value) (ds : List Value) (ls : List Let) (sent : Int) (ms : List Let) (h : NetAt w p lv ds ms sent) (hn : ms.length < 1024) (hnl : ls.length < 1024) (hx : ∀ j, j < ms.length → (ms.getD j default).2.2.length ≤ 1000000) (xv : Value) (hX : XAt w 0 xv ls) (a f t : Int) (d : Value) (xs : List Int) (hd : SlB w d xs) (hnx : xs.length ≤ 1000) (ha : 0 ≤ a) (ha2 : a < ls.length) (hm : atI ms a = true) :
    Calls Try.prog 15 #[.pointer (some ⟨p, 0, none⟩), xv, .agg #[.int .i64 2, .int .i64 a, .int .i64 f, .int .i64 t, d]] w (StepG p lv xv ls (stepI ms 2 a f t xs) (sent + stepS 2 f t) w) := by
  obtain ⟨Ax, cx, rfl⟩ := own_shape hX
  obtain ⟨A, c, rfl, hl1, hl2⟩ := hd.shape
  rw [stepS_not (show (2 : Int) ≠ 1 by decide), Int.add_zero]
  obtain ⟨W7, hW7⟩ : ∃ W, W = w.alloc (.cells #[.int .i64 2, .int .i64 a, .int .i64 f, .int .i64 t, .slice A xs.length c] 36) := ⟨_, rfl⟩
  have hu7 : Up w W7 := by rw [hW7]; exact (Chg.refl _ w).alloc _
  have ho7 : W7.heap[w.heap.size]? = some (.cells #[.int .i64 2, .int .i64 a, .int .i64 f, .int .i64 t, .slice A xs.length c] 36 (0, 0)) := by rw [hW7]; exact heap_alloc_last w _
  have hlt : w.heap.size < W7.heap.size := (Array.getElem?_eq_some_iff.1 ho7).1
  have hout : ¬ (w.heap.size = p ∨ lv.ownBlock = some w.heap.size) := fun hs => by
    rcases hs with hs | hs
    · have := (Array.getElem?_eq_some_iff.1 h.obj).1; omega
    · have := own_lt h.row _ hs; omega
  have e0 : stepI ms 2 a f t xs = ms.eraseIdx a.toNat := by unfold stepI; rw [if_neg (by decide), if_pos rfl, if_pos hm]
  have HC := Lib.hid (take_any W7 p lv ds ms sent a (h.up hu7) (by omega))
  have HN := Lib.hid h
  have HX := Lib.hid hX
  have HD := Lib.hid hd
  have HU7 := Lib.hid hu7
  have HO7 := Lib.hid ho7
  have HW7 := Lib.hid hW7
  have HM := Lib.hid hm
  have HE0 := Lib.hid e0
  have HOUT := Lib.hid hout
  clear h hX hd hu7 ho7 hW7 hm hx e0 hout hlt
  rw [HE0.out]
  go_enter Try.func15, Try.ntmps15
  go_wp2_with fail
  rw [← HW7.out]
  refine HC.out.mono ?_
  intro e W8 hdp
  rcases hdp with ⟨hat, _⟩ | ⟨_, d1, rfl, hd1, lv1, hn1, hl1, hc1⟩
  · rw [HM.out] at hat; cases hat
  have hlb : ∀ g, lv1.ownBlock = some g → lv.ownBlock = some g ∨ w.heap.size ≤ g := fun g hg => .inl (hl1 ▸ hg)
  obtain ⟨y, hye⟩ : ∃ y, ms.getD a.toNat default = y := ⟨_, rfl⟩
  rw [hye] at hd1 ⊢
  obtain ⟨f', t', xs'⟩ := y
  dsimp only at hd1 ⊢
  obtain ⟨A', c', rfl⟩ := own_shape hd1
  have HD1 := Lib.hid hd1
  clear hye hd1
  have hcw : Chg (fun i => i = p ∨ lv.ownBlock = some i) w W8 := (HU7.out.mono (fun _ _ h => h.elim)).then hc1 (fun i hi => .inl hi)
  have ho8 := hc1.heap HO7.out HOUT.out
  have hx8 := HX.out.net HN.out hcw
  have HN1 := Lib.hid hn1
  have HLB := Lib.hid (show ∀ g, lv1.ownBlock = some g → lv.ownBlock = some g ∨ w.heap.size ≤ g from hlb)
  have HCW := Lib.hid hcw
  have HX8 := Lib.hid hx8
  have HO8 := Lib.hid ho8
  clear hcw ho8 hx8 hn1 hlb hc1
  obtain ⟨k, rfl⟩ : ∃ k : Nat, a = k := ⟨a.toNat, by omega⟩
  have hk : k < ls.length := by omega
  obtain ⟨gx, rfl⟩ : ∃ g, Ax = some ⟨g, 0, none⟩ := by
    rcases HX8.out.2 with ⟨h0, hz⟩ | ⟨g, cap, cur, he, _⟩
    · omega
    · injection he with e1; exact ⟨g, e1⟩
  go_wp2_with fail
  obtain ⟨W9, hW9⟩ : ∃ W, W = W8.alloc (.cells #[.int .i64 f', .int .i64 t', .slice A' xs'.length c'] 29) := ⟨_, rfl⟩
  obtain ⟨g14, hg14⟩ : ∃ g, g = W8.heap.size := ⟨_, rfl⟩
  rw [← hW9, ← hg14]
  have hl9 : W9.heap[g14]? = some (.cells #[.int .i64 f', .int .i64 t', .slice A' xs'.length c'] 29 (0, 0)) := by rw [hW9, hg14]; exact heap_alloc_last _ _
  have hu9 : Up W8 W9.drew := by rw [hW9]; exact ((Chg.refl _ _).alloc _).drew
  have L0 : Hid (W9.drew.cell? ⟨g14, 0, none⟩ = some (.int .i64 f')) := Lib.hid (cell_of_row W9 g14 0 _ _ _ hl9)
  have L1 : Hid (W9.drew.cell? ⟨g14, 1, none⟩ = some (.int .i64 t')) := Lib.hid (cell_of_row W9 g14 1 _ _ _ hl9)
  have L2 : Hid (W9.drew.cell? ⟨g14, 2, none⟩ = some (.slice A' xs'.length c')) := Lib.hid (cell_of_row W9 g14 2 _ _ _ hl9)
  have HD9 : Hid (SlB W9.drew (.slice A' xs'.length c') xs') := Lib.hid (DatB.slb (HD1.out.chg hu9 (fun _ _ _ h => h.elim)))
  obtain ⟨st, hst⟩ : ∃ s, strOfNums xs' = s := ⟨_, rfl⟩
  have HST := Lib.hid hst
  clear hst
  have HU9 := Lib.hid hu9
  have O1 : Hid (W9.drew.cell? ⟨w.heap.size, 1, none⟩ = some (.int .i64 (k : Int))) := Lib.hid (hu9.cell (cell_of_row W8 w.heap.size 1 _ _ _ HO8.out) (fun h => h))
  have HX9 : Hid (XAt W9.drew 0 (.slice (some ⟨gx, 0, none⟩) ls.length cx) ls) := Lib.hid (own_chg HX8.out hu9 (fun _ _ h => h))
  have HSZ := Lib.hid (Nat.le_trans HCW.out.size hu9.size)
  obtain ⟨s0, s1, s2⟩ := HX9.out.cells k hk
  obtain ⟨z, hze⟩ : ∃ z, ls.getD k default = z := ⟨_, rfl⟩
  rw [hze] at s0 s1 s2
  obtain ⟨fx, tx, zs⟩ := z
  dsimp only at s0 s1 s2
  obtain ⟨sx, hsx⟩ : ∃ s, strOfNums zs = s := ⟨_, rfl⟩
  rw [hsx] at s2
  have M0 := Lib.hid s0
  have M1 := Lib.hid s1
  have M2 := Lib.hid s2
  clear s0 s1 s2 hze hsx
  clear hl9 hu9 hW9 hg14
  refine MT.region_mono Up [fun v _ => v = .slice (some ⟨gx, 0, none⟩) ls.length cx,
      fun v _ => v = .pointer (some ⟨w.heap.size, 1, none⟩),
      fun v _ => v = .int .i64 (k : Int),
      XV w.heap.size (ls.eraseIdx k),
      fun v _ => v = .int .i64 0,
      fun v _ => v = .bool true,
      fun v _ => v = .bool true,
      fun v _ => v = .agg #[.int .i64 f', .int .i64 t', .slice A' xs'.length c'],
      fun v _ => v = .agg #[.int .i64 f', .int .i64 t', .string st],
      fun v _ => v = .slice (some ⟨gx, 0, none⟩) ls.length cx,
      fun v _ => v = .pointer (some ⟨w.heap.size, 1, none⟩),
      fun v _ => v = .int .i64 (k : Int),
      fun v _ => v = .pointer (some ⟨gx, k * 3, none⟩),
      fun v _ => v = .agg #[.int .i64 fx, .int .i64 tx, .string sx],
      fun v _ => ∃ b, v = .bool b,
      fun v _ => ∃ b, v = .bool b,
      XV w.heap.size (ls.eraseIdx k)] (by kernel_rfl) (by kernel_rfl) (Chg.refl _) (fun _ _ _ => Chg.trans) (by simp) ?_ ?_ ?_
  · simp only [List.forall_mem_cons]
    exact ⟨fun _ _ _ _ _ h => h, fun _ _ _ _ _ h => h, fun _ _ _ _ _ h => h, fun _ _ _ _ hu h => XV.up h hu, fun _ _ _ _ _ h => h, fun _ _ _ _ _ h => h, fun _ _ _ _ _ h => h, fun _ _ _ _ _ h => h, fun _ _ _ _ _ h => h, fun _ _ _ _ _ h => h, fun _ _ _ _ _ h => h, fun _ _ _ _ _ h => h, fun _ _ _ _ _ h => h, fun _ _ _ _ _ h => h, fun _ _ _ _ _ h => h, fun _ _ _ _ _ h => h, fun _ _ _ _ hu h => XV.up h hu, by simp⟩
  · refine ⟨?_, ?_, ?_, ?_, ?_, ?_, ?_, ?_, ?_, ?_, ?_, ?_, ?_, ?_, ?_, ?_, ?_, trivial⟩
    · intro ρ w1 hw h0 hc hg hf hd
      have s1 : ρ (.tmp 1) = .slice (some ⟨gx, 0, none⟩) ls.length cx := h0 1 (by kernel_rfl)
      refine ⟨fun _ => ?_, fun h => by cases h⟩
      clear h0 hg hd
      exact gives_move rfl ⟨Chg.refl _ _, s1⟩
    · intro ρ w1 hw h0 hc hg hf hd
      have s5 : ρ (.tmp 5) = .pointer (some ⟨w.heap.size, 0, none⟩) := h0 5 (by kernel_rfl)
      refine ⟨fun _ => ?_, fun h => by cases h⟩
      clear h0 hg hd
      clear hf
      refine Gives.value (w' := w1) ?_ ⟨Chg.refl _ _, rfl⟩
      go_simp
    · intro ρ w1 hw h0 hc hg hf hd
      have d1 := hd ⟨1, .data⟩ (by simp) rfl _ _ _ rfl rfl rfl
      refine ⟨fun _ => ?_, fun h => by cases h⟩
      clear h0 hg hd
      clear hc hf
      have l0 := hw.cell O1.out (fun h => h)
      refine Gives.value (w' := w1) ?_ ⟨Chg.refl _ _, rfl⟩
      go_simp
    · intro ρ w1 hw h0 hc hg hf hd
      have d0 := hd ⟨0, .data⟩ (by simp) rfl _ _ _ rfl rfl rfl
      have d2 := hd ⟨2, .data⟩ (by simp) rfl _ _ _ rfl rfl rfl
      refine ⟨fun _ => ?_, fun h => by cases h⟩
      clear h0 hg hd
      refine gives_call rfl hf Try.func27 rfl (by kernel_rfl) (args := #[.slice (some ⟨gx, 0, none⟩) ls.length cx, .int .i64 (k : Int)]) (by simp [d0, d2]) ((without_any w1 0 _ ls (own_chg HX9.out hw (fun _ _ h => h)) k hk (by omega)).mono ?_)
      rintro e w2 ⟨B, c5, rfl, hx5, hb5⟩
      exact ⟨_, rfl, up_below hb5, B, c5, rfl, own_base hx5 (Nat.le_trans HSZ.out hw.size)⟩
    · intro ρ w1 hw h0 hc hg hf hd
      have s15 : ρ (.tmp 15) = .int .i64 0 := h0 15 (by kernel_rfl)
      refine ⟨fun _ => ?_, fun h => by cases h⟩
      clear h0 hg hd
      exact gives_move rfl ⟨Chg.refl _ _, s15⟩
    · intro ρ w1 hw h0 hc hg hf hd
      have d4 := hd ⟨4, .data⟩ (by simp) rfl _ _ _ rfl rfl rfl
      refine ⟨fun _ => ?_, fun h => by cases h⟩
      clear h0 hg hd
      clear hf
      refine Gives.value (w' := w1) ?_ ⟨Chg.refl _ _, rfl⟩
      go_simp
    · intro ρ w1 hw h0 hc hg hf hd
      have d5 := hd ⟨5, .data⟩ (by simp) rfl _ _ _ rfl rfl rfl
      refine ⟨fun _ => ?_, fun h => by cases h⟩
      clear h0 hg hd
      exact gives_move rfl ⟨Chg.refl _ _, d5⟩
    · intro ρ w1 hw h0 hc hg hf hd
      have d6 := hd ⟨6, .guard⟩ (by simp) rfl _ _ _ rfl rfl rfl
      have s14 : ρ (.tmp 14) = .pointer (some ⟨g14, 0, none⟩) := h0 14 (by kernel_rfl)
      refine ⟨fun _ => ?_, fun h => by rw [wantedBy_true rfl rfl rfl d6] at h; cases h⟩
      clear d6
      clear h0 hg hd
      clear hc hf
      have l0 := hw.cell L0.out (fun h => h)
      have l1 := hw.cell L1.out (fun h => h)
      have l2 := hw.cell L2.out (fun h => h)
      refine Gives.value (w' := w1) ?_ ⟨Chg.refl _ _, rfl⟩
      go_simp
    · intro ρ w1 hw h0 hc hg hf hd
      have d7 := hd ⟨7, .data⟩ (by simp) rfl _ _ _ rfl rfl rfl
      have d6 := hd ⟨6, .chain⟩ (by simp) rfl _ _ _ rfl rfl rfl
      refine ⟨fun _ => ?_, fun h => by rw [wantedBy_true rfl rfl rfl d6] at h; cases h⟩
      clear d6
      clear h0 hg hd
      have hcl := ref_any w1 f' t' (.slice A' xs'.length c') xs' (Src.chg HD9.out hw (fun _ _ _ h => h) (by decide))
      unfold refV at hcl
      dsimp only at hcl
      rw [HST.out] at hcl
      refine gives_call rfl hf Try.func21 rfl (by kernel_rfl) (args := #[.agg #[.int .i64 f', .int .i64 t', .slice A' xs'.length c']]) (by simp [hc, d7]) (hcl.mono ?_)
      rintro e w2 ⟨rfl, hb⟩
      exact ⟨_, rfl, up_below hb, rfl⟩
    · intro ρ w1 hw h0 hc hg hf hd
      have d6 := hd ⟨6, .guard⟩ (by simp) rfl _ _ _ rfl rfl rfl
      have s1 : ρ (.tmp 1) = .slice (some ⟨gx, 0, none⟩) ls.length cx := h0 1 (by kernel_rfl)
      refine ⟨fun _ => ?_, fun h => by rw [wantedBy_true rfl rfl rfl d6] at h; cases h⟩
      clear d6
      clear h0 hg hd
      exact gives_move rfl ⟨Chg.refl _ _, s1⟩
    · intro ρ w1 hw h0 hc hg hf hd
      have d6 := hd ⟨6, .guard⟩ (by simp) rfl _ _ _ rfl rfl rfl
      have s5 : ρ (.tmp 5) = .pointer (some ⟨w.heap.size, 0, none⟩) := h0 5 (by kernel_rfl)
      refine ⟨fun _ => ?_, fun h => by rw [wantedBy_true rfl rfl rfl d6] at h; cases h⟩
      clear d6
      clear h0 hg hd
      clear hf
      refine Gives.value (w' := w1) ?_ ⟨Chg.refl _ _, rfl⟩
      go_simp
    · intro ρ w1 hw h0 hc hg hf hd
      have d10 := hd ⟨10, .data⟩ (by simp) rfl _ _ _ rfl rfl rfl
      have d6 := hd ⟨6, .guard⟩ (by simp) rfl _ _ _ rfl rfl rfl
      refine ⟨fun _ => ?_, fun h => by rw [wantedBy_true rfl rfl rfl d6] at h; cases h⟩
      clear d6
      clear h0 hg hd
      clear hc hf
      have l0 := hw.cell O1.out (fun h => h)
      refine Gives.value (w' := w1) ?_ ⟨Chg.refl _ _, rfl⟩
      go_simp
    · intro ρ w1 hw h0 hc hg hf hd
      have d9 := hd ⟨9, .data⟩ (by simp) rfl _ _ _ rfl rfl rfl
      have d11 := hd ⟨11, .data⟩ (by simp) rfl _ _ _ rfl rfl rfl
      have d6 := hd ⟨6, .guard⟩ (by simp) rfl _ _ _ rfl rfl rfl
      refine ⟨fun _ => ?_, fun h => by rw [wantedBy_true rfl rfl rfl d6] at h; cases h⟩
      clear d6
      clear h0 hg hd
      clear hf
      refine Gives.value (w' := w1) ?_ ⟨Chg.refl _ _, rfl⟩
      go_simp
    · intro ρ w1 hw h0 hc hg hf hd
      have d12 := hd ⟨12, .data⟩ (by simp) rfl _ _ _ rfl rfl rfl
      have d6 := hd ⟨6, .guard⟩ (by simp) rfl _ _ _ rfl rfl rfl
      refine ⟨fun _ => ?_, fun h => by rw [wantedBy_true rfl rfl rfl d6] at h; cases h⟩
      clear d6
      clear h0 hg hd
      clear hc hf
      have l0 := hw.cell M0.out (fun h => h)
      have l1 := hw.cell M1.out (fun h => h)
      have l2 := hw.cell M2.out (fun h => h)
      refine Gives.value (w' := w1) ?_ ⟨Chg.refl _ _, rfl⟩
      go_simp
    · intro ρ w1 hw h0 hc hg hf hd
      have d8 := hd ⟨8, .data⟩ (by simp) rfl _ _ _ rfl rfl rfl
      have d13 := hd ⟨13, .data⟩ (by simp) rfl _ _ _ rfl rfl rfl
      have d6 := hd ⟨6, .guard⟩ (by simp) rfl _ _ _ rfl rfl rfl
      refine ⟨fun _ => ?_, fun h => by rw [wantedBy_true rfl rfl rfl d6] at h; cases h⟩
      clear d6
      clear h0 hg hd
      clear hf
      obtain ⟨b, q1⟩ := eq49g f' t' st fx tx sx w1
      have q2 := guard49g .eql (.tmp 126) (.tmp 131) f' t' st fx tx sx w1
      refine Gives.value (v := .bool b) (w' := w1) ?_ ⟨Chg.refl _ _, b, rfl⟩
      unfold execOp
      simp [d8, d13, q1, q2]
    · intro ρ w1 hw h0 hc hg hf hd
      have d6 := hd ⟨6, .data⟩ (by simp) rfl _ _ _ rfl rfl rfl
      have d14 := hd ⟨14, .data⟩ (by simp) rfl _ _ _ rfl rfl rfl
      refine ⟨fun _ => ?_, fun h => by cases h⟩
      clear h0 hg hd
      clear hf
      obtain ⟨b, d14⟩ := d14
      refine Gives.value (w' := w1) ?_ ⟨Chg.refl _ _, b, rfl⟩
      go_simp
    · intro ρ w1 hw h0 hc hg hf hd
      have d3 := hd ⟨3, .data⟩ (by simp) rfl _ _ _ rfl rfl rfl
      refine ⟨fun _ => ?_, fun h => by cases h⟩
      clear h0 hg hd
      exact gives_assign rfl ⟨Chg.refl _ _, d3⟩
  · intro vs w9 hw hr
    have h15 := hr 15 _ rfl
    have h16 := hr 16 _ rfl
    clear hr
    dsimp only [putsL, restL]
    simp only [Act.put, List.setIfInBounds_toArray, List.set_cons_zero, List.set_cons_succ]
    obtain ⟨B5, c5, e16, hx5⟩ : ∃ B c, vs 16 = .slice B (ls.eraseIdx k).length c ∧ XAt w9 w.heap.size (.slice B (ls.eraseIdx k).length c) (ls.eraseIdx k) := h16
    obtain ⟨b15, e15⟩ : ∃ b, vs 15 = .bool b := h15
    rw [e15, e16]
    have HUW := Lib.hid (HU9.out.trans hw)
    clear hw e16 hx5
    go_wp2_with fail
    go_ret2
    exact ⟨_, _, lv1, _, rfl, HN1.out.up HUW.out, own_chg HX8.out HUW.out (fun _ _ h => h), ((HCW.out.then HUW.out (fun i hi => hi.elim))).mono (fun i _ hi => hi.imp id .inl), HLB.out⟩
set_option maxRecDepth 100000 in
set_option maxHeartbeats 4000000 in
theorem stepG2bo (w : World) (p : Nat) (lv : Value) (ds : List Value) (ls : List Let) (sent : Int) (ms : List Let) (h : NetAt w p lv ds ms sent) (hn : ms.length < 1024) (hnl : ls.length < 1024) (hx : ∀ j, j < ms.length → (ms.getD j default).2.2.length ≤ 1000000) (xv : Value) (hX : XAt w 0 xv ls) (a f t : Int) (d : Value) (xs : List Int) (hd : SlB w d xs) (hnx : xs.length ≤ 1000) (ha : 0 ≤ a) (ha2 : a < ls.length) (hm : atI ms a = false) :
    Calls Try.prog 15 #[.pointer (some ⟨p, 0, none⟩), xv, .agg #[.int .i64 2, .int .i64 a, .int .i64 f, .int .i64 t, d]] w (StepG p lv xv ls (stepI ms 2 a f t xs) (sent + stepS 2 f t) w) := by
  obtain ⟨Ax, cx, rfl⟩ := own_shape hX
  obtain ⟨A, c, rfl, hl1, hl2⟩ := hd.shape
  rw [stepS_not (show (2 : Int) ≠ 1 by decide), Int.add_zero]
  obtain ⟨W7, hW7⟩ : ∃ W, W = w.alloc (.cells #[.int .i64 2, .int .i64 a, .int .i64 f, .int .i64 t, .slice A xs.length c] 36) := ⟨_, rfl⟩
  have hu7 : Up w W7 := by rw [hW7]; exact (Chg.refl _ w).alloc _
  have ho7 : W7.heap[w.heap.size]? = some (.cells #[.int .i64 2, .int .i64 a, .int .i64 f, .int .i64 t, .slice A xs.length c] 36 (0, 0)) := by rw [hW7]; exact heap_alloc_last w _
  have hlt : w.heap.size < W7.heap.size := (Array.getElem?_eq_some_iff.1 ho7).1
  have hout : ¬ (w.heap.size = p ∨ lv.ownBlock = some w.heap.size) := fun hs => by
    rcases hs with hs | hs
    · have := (Array.getElem?_eq_some_iff.1 h.obj).1; omega
    · have := own_lt h.row _ hs; omega
  have e0 : stepI ms 2 a f t xs = ms := stepI_not (by decide) hm
  have HC := Lib.hid (take_any W7 p lv ds ms sent a (h.up hu7) (by omega))
  have HN := Lib.hid h
  have HX := Lib.hid hX
  have HD := Lib.hid hd
  have HU7 := Lib.hid hu7
  have HO7 := Lib.hid ho7
  have HW7 := Lib.hid hW7
  have HM := Lib.hid hm
  have HE0 := Lib.hid e0
  have HOUT := Lib.hid hout
  clear h hX hd hu7 ho7 hW7 hm hx e0 hout hlt
  rw [HE0.out]
  go_enter Try.func15, Try.ntmps15
  go_wp2_with fail
  rw [← HW7.out]
  refine HC.out.mono ?_
  intro e W8 hdp
  rcases hdp with ⟨_, rfl, hu8⟩ | ⟨hat, _⟩
  case inr => rw [HM.out] at hat; cases hat
  have hcw : Chg (fun i => i = p ∨ lv.ownBlock = some i) w W8 := (HU7.out.trans hu8).mono (fun _ _ h => h.elim)
  have ho8 := hu8.heap HO7.out (fun h => h)
  have hx8 := HX.out.net HN.out hcw
  have HN1 := Lib.hid (HN.out.up (HU7.out.trans hu8))
  have HLB := Lib.hid (show ∀ g, lv.ownBlock = some g → lv.ownBlock = some g ∨ w.heap.size ≤ g from fun g hg => .inl hg)
  have HCW := Lib.hid hcw
  have HX8 := Lib.hid hx8
  have HO8 := Lib.hid ho8
  clear hcw ho8 hx8 hu8
  obtain ⟨k, rfl⟩ : ∃ k : Nat, a = k := ⟨a.toNat, by omega⟩
  have hk : k < ls.length := by omega
  obtain ⟨gx, rfl⟩ : ∃ g, Ax = some ⟨g, 0, none⟩ := by
    rcases HX8.out.2 with ⟨h0, hz⟩ | ⟨g, cap, cur, he, _⟩
    · omega
    · injection he with e1; exact ⟨g, e1⟩
  go_wp2_with fail
  obtain ⟨W9, hW9⟩ : ∃ W, W = W8.alloc (.cells #[.int .i64 0, .int .i64 0, .slice none 0 0] 29) := ⟨_, rfl⟩
  obtain ⟨g14, hg14⟩ : ∃ g, g = W8.heap.size := ⟨_, rfl⟩
  rw [← hW9, ← hg14]
  have hl9 : W9.heap[g14]? = some (.cells #[.int .i64 0, .int .i64 0, .slice none 0 0] 29 (0, 0)) := by rw [hW9, hg14]; exact heap_alloc_last _ _
  have hu9 : Up W8 W9.drew := by rw [hW9]; exact ((Chg.refl _ _).alloc _).drew
  have L2 : Hid (W9.drew.cell? ⟨g14, 2, none⟩ = some (.slice none 0 0)) := Lib.hid (cell_of_row W9 g14 2 _ _ _ hl9)
  have HU9 := Lib.hid hu9
  have O1 : Hid (W9.drew.cell? ⟨w.heap.size, 1, none⟩ = some (.int .i64 (k : Int))) := Lib.hid (hu9.cell (cell_of_row W8 w.heap.size 1 _ _ _ HO8.out) (fun h => h))
  have HX9 : Hid (XAt W9.drew 0 (.slice (some ⟨gx, 0, none⟩) ls.length cx) ls) := Lib.hid (own_chg HX8.out hu9 (fun _ _ h => h))
  have HSZ := Lib.hid (Nat.le_trans HCW.out.size hu9.size)
  clear hl9 hu9 hW9 hg14
  refine MT.region_mono Up [fun v _ => v = .slice (some ⟨gx, 0, none⟩) ls.length cx,
      fun v _ => v = .pointer (some ⟨w.heap.size, 1, none⟩),
      fun v _ => v = .int .i64 (k : Int),
      XV w.heap.size (ls.eraseIdx k),
      fun v _ => v = .int .i64 11,
      fun v _ => v = .bool false,
      fun v _ => v = .bool false,
      fun _ _ => True,
      fun _ _ => True,
      fun _ _ => True,
      fun _ _ => True,
      fun _ _ => True,
      fun _ _ => True,
      fun _ _ => True,
      fun _ _ => True,
      fun v _ => v = .bool false,
      XV w.heap.size (ls.eraseIdx k)] (by kernel_rfl) (by kernel_rfl) (Chg.refl _) (fun _ _ _ => Chg.trans) (by simp) ?_ ?_ ?_
  · simp only [List.forall_mem_cons]
    exact ⟨fun _ _ _ _ _ h => h, fun _ _ _ _ _ h => h, fun _ _ _ _ _ h => h, fun _ _ _ _ hu h => XV.up h hu, fun _ _ _ _ _ h => h, fun _ _ _ _ _ h => h, fun _ _ _ _ _ h => h, fun _ _ _ _ _ h => h, fun _ _ _ _ _ h => h, fun _ _ _ _ _ h => h, fun _ _ _ _ _ h => h, fun _ _ _ _ _ h => h, fun _ _ _ _ _ h => h, fun _ _ _ _ _ h => h, fun _ _ _ _ _ h => h, fun _ _ _ _ _ h => h, fun _ _ _ _ hu h => XV.up h hu, by simp⟩
  · refine ⟨?_, ?_, ?_, ?_, ?_, ?_, ?_, ?_, ?_, ?_, ?_, ?_, ?_, ?_, ?_, ?_, ?_, trivial⟩
    · intro ρ w1 hw h0 hc hg hf hd
      have s1 : ρ (.tmp 1) = .slice (some ⟨gx, 0, none⟩) ls.length cx := h0 1 (by kernel_rfl)
      refine ⟨fun _ => ?_, fun h => by cases h⟩
      clear h0 hg hd
      exact gives_move rfl ⟨Chg.refl _ _, s1⟩
    · intro ρ w1 hw h0 hc hg hf hd
      have s5 : ρ (.tmp 5) = .pointer (some ⟨w.heap.size, 0, none⟩) := h0 5 (by kernel_rfl)
      refine ⟨fun _ => ?_, fun h => by cases h⟩
      clear h0 hg hd
      clear hf
      refine Gives.value (w' := w1) ?_ ⟨Chg.refl _ _, rfl⟩
      go_simp
    · intro ρ w1 hw h0 hc hg hf hd
      have d1 := hd ⟨1, .data⟩ (by simp) rfl _ _ _ rfl rfl rfl
      refine ⟨fun _ => ?_, fun h => by cases h⟩
      clear h0 hg hd
      clear hc hf
      have l0 := hw.cell O1.out (fun h => h)
      refine Gives.value (w' := w1) ?_ ⟨Chg.refl _ _, rfl⟩
      go_simp
    · intro ρ w1 hw h0 hc hg hf hd
      have d0 := hd ⟨0, .data⟩ (by simp) rfl _ _ _ rfl rfl rfl
      have d2 := hd ⟨2, .data⟩ (by simp) rfl _ _ _ rfl rfl rfl
      refine ⟨fun _ => ?_, fun h => by cases h⟩
      clear h0 hg hd
      refine gives_call rfl hf Try.func27 rfl (by kernel_rfl) (args := #[.slice (some ⟨gx, 0, none⟩) ls.length cx, .int .i64 (k : Int)]) (by simp [d0, d2]) ((without_any w1 0 _ ls (own_chg HX9.out hw (fun _ _ h => h)) k hk (by omega)).mono ?_)
      rintro e w2 ⟨B, c5, rfl, hx5, hb5⟩
      exact ⟨_, rfl, up_below hb5, B, c5, rfl, own_base hx5 (Nat.le_trans HSZ.out hw.size)⟩
    · intro ρ w1 hw h0 hc hg hf hd
      have s15 : ρ (.tmp 15) = .int .i64 11 := h0 15 (by kernel_rfl)
      refine ⟨fun _ => ?_, fun h => by cases h⟩
      clear h0 hg hd
      exact gives_move rfl ⟨Chg.refl _ _, s15⟩
    · intro ρ w1 hw h0 hc hg hf hd
      have d4 := hd ⟨4, .data⟩ (by simp) rfl _ _ _ rfl rfl rfl
      refine ⟨fun _ => ?_, fun h => by cases h⟩
      clear h0 hg hd
      clear hf
      refine Gives.value (w' := w1) ?_ ⟨Chg.refl _ _, rfl⟩
      go_simp
    · intro ρ w1 hw h0 hc hg hf hd
      have d5 := hd ⟨5, .data⟩ (by simp) rfl _ _ _ rfl rfl rfl
      refine ⟨fun _ => ?_, fun h => by cases h⟩
      clear h0 hg hd
      exact gives_move rfl ⟨Chg.refl _ _, d5⟩
    · intro ρ w1 hw h0 hc hg hf hd
      have d6 := hd ⟨6, .guard⟩ (by simp) rfl _ _ _ rfl rfl rfl
      exact ⟨fun hx => (by rw [wantedBy_false rfl rfl rfl d6] at hx; cases hx), fun _ => trivial⟩
    · intro ρ w1 hw h0 hc hg hf hd
      have d6 := hd ⟨6, .chain⟩ (by simp) rfl _ _ _ rfl rfl rfl
      exact ⟨fun hx => (by rw [wantedBy_false rfl rfl rfl d6] at hx; cases hx), fun _ => trivial⟩
    · intro ρ w1 hw h0 hc hg hf hd
      have d6 := hd ⟨6, .guard⟩ (by simp) rfl _ _ _ rfl rfl rfl
      exact ⟨fun hx => (by rw [wantedBy_false rfl rfl rfl d6] at hx; cases hx), fun _ => trivial⟩
    · intro ρ w1 hw h0 hc hg hf hd
      have d6 := hd ⟨6, .guard⟩ (by simp) rfl _ _ _ rfl rfl rfl
      exact ⟨fun hx => (by rw [wantedBy_false rfl rfl rfl d6] at hx; cases hx), fun _ => trivial⟩
    · intro ρ w1 hw h0 hc hg hf hd
      have d6 := hd ⟨6, .guard⟩ (by simp) rfl _ _ _ rfl rfl rfl
      exact ⟨fun hx => (by rw [wantedBy_false rfl rfl rfl d6] at hx; cases hx), fun _ => trivial⟩
    · intro ρ w1 hw h0 hc hg hf hd
      have d6 := hd ⟨6, .guard⟩ (by simp) rfl _ _ _ rfl rfl rfl
      exact ⟨fun hx => (by rw [wantedBy_false rfl rfl rfl d6] at hx; cases hx), fun _ => trivial⟩
    · intro ρ w1 hw h0 hc hg hf hd
      have d6 := hd ⟨6, .guard⟩ (by simp) rfl _ _ _ rfl rfl rfl
      exact ⟨fun hx => (by rw [wantedBy_false rfl rfl rfl d6] at hx; cases hx), fun _ => trivial⟩
    · intro ρ w1 hw h0 hc hg hf hd
      have d6 := hd ⟨6, .guard⟩ (by simp) rfl _ _ _ rfl rfl rfl
      exact ⟨fun hx => (by rw [wantedBy_false rfl rfl rfl d6] at hx; cases hx), fun _ => trivial⟩
    · intro ρ w1 hw h0 hc hg hf hd
      have d6 := hd ⟨6, .data⟩ (by simp) rfl _ _ _ rfl rfl rfl
      have d14 := hd ⟨14, .data⟩ (by simp) rfl _ _ _ rfl rfl rfl
      refine ⟨fun _ => ?_, fun h => by cases h⟩
      clear h0 hg hd
      clear hf
      refine Gives.value (w' := w1) ?_ ⟨Chg.refl _ _, rfl⟩
      go_simp
    · intro ρ w1 hw h0 hc hg hf hd
      have d3 := hd ⟨3, .data⟩ (by simp) rfl _ _ _ rfl rfl rfl
      refine ⟨fun _ => ?_, fun h => by cases h⟩
      clear h0 hg hd
      exact gives_assign rfl ⟨Chg.refl _ _, d3⟩
  · intro vs w9 hw hr
    have h15 := hr 15 _ rfl
    have h16 := hr 16 _ rfl
    clear hr
    dsimp only [putsL, restL]
    simp only [Act.put, List.setIfInBounds_toArray, List.set_cons_zero, List.set_cons_succ]
    obtain ⟨B5, c5, e16, hx5⟩ : ∃ B c, vs 16 = .slice B (ls.eraseIdx k).length c ∧ XAt w9 w.heap.size (.slice B (ls.eraseIdx k).length c) (ls.eraseIdx k) := h16
    rw [h15, e16]
    have HUW := Lib.hid (HU9.out.trans hw)
    clear hw e16 hx5
    go_wp2_with fail
    go_ret2
    exact ⟨_, _, lv, ds, rfl, HN1.out.up HUW.out, own_chg HX8.out HUW.out (fun _ _ h => h), ((HCW.out.then HUW.out (fun i hi => hi.elim))).mono (fun i _ hi => hi.imp id .inl), HLB.out⟩
set_option maxRecDepth 100000 in
set_option maxHeartbeats 4000000 in
theorem stepG2ci (w : World) (p : Nat) (lv : Value) (ds : List Value) (ls : List Let) (sent : Int) (ms : List Let) (h : NetAt w p lv ds ms sent) (hn : ms.length < 1024) (hnl : ls.length < 1024) (hx : ∀ j, j < ms.length → (ms.getD j default).2.2.length ≤ 1000000) (xv : Value) (hX : XAt w 0 xv ls) (a f t : Int) (d : Value) (xs : List Int) (hd : SlB w d xs) (hnx : xs.length ≤ 1000) (ha0 : 0 ≤ a) (ha : ¬ a < (ls.length : Int)) (hm : atI ms a = true) :
    Calls Try.prog 15 #[.pointer (some ⟨p, 0, none⟩), xv, .agg #[.int .i64 2, .int .i64 a, .int .i64 f, .int .i64 t, d]] w (StepG p lv xv ls (stepI ms 2 a f t xs) (sent + stepS 2 f t) w) := by
  obtain ⟨Ax, cx, rfl⟩ := own_shape hX
  obtain ⟨A, c, rfl, hl1, hl2⟩ := hd.shape
  rw [stepS_not (show (2 : Int) ≠ 1 by decide), Int.add_zero]
  obtain ⟨W7, hW7⟩ : ∃ W, W = w.alloc (.cells #[.int .i64 2, .int .i64 a, .int .i64 f, .int .i64 t, .slice A xs.length c] 36) := ⟨_, rfl⟩
  have hu7 : Up w W7 := by rw [hW7]; exact (Chg.refl _ w).alloc _
  have ho7 : W7.heap[w.heap.size]? = some (.cells #[.int .i64 2, .int .i64 a, .int .i64 f, .int .i64 t, .slice A xs.length c] 36 (0, 0)) := by rw [hW7]; exact heap_alloc_last w _
  have hlt : w.heap.size < W7.heap.size := (Array.getElem?_eq_some_iff.1 ho7).1
  have hout : ¬ (w.heap.size = p ∨ lv.ownBlock = some w.heap.size) := fun hs => by
    rcases hs with hs | hs
    · have := (Array.getElem?_eq_some_iff.1 h.obj).1; omega
    · have := own_lt h.row _ hs; omega
  have e0 : stepI ms 2 a f t xs = ms.eraseIdx a.toNat := by unfold stepI; rw [if_neg (by decide), if_pos rfl, if_pos hm]
  have HC := Lib.hid (take_any W7 p lv ds ms sent a (h.up hu7) (by omega))
  have HN := Lib.hid h
  have HX := Lib.hid hX
  have HD := Lib.hid hd
  have HU7 := Lib.hid hu7
  have HO7 := Lib.hid ho7
  have HW7 := Lib.hid hW7
  have HM := Lib.hid hm
  have HE0 := Lib.hid e0
  have HOUT := Lib.hid hout
  clear h hX hd hu7 ho7 hW7 hm hx e0 hout hlt
  rw [HE0.out]
  go_enter Try.func15, Try.ntmps15
  go_wp2_with fail
  rw [← HW7.out]
  refine HC.out.mono ?_
  intro e W8 hdp
  rcases hdp with ⟨hat, _⟩ | ⟨_, d1, rfl, hd1, lv1, hn1, hl1, hc1⟩
  · rw [HM.out] at hat; cases hat
  have hlb : ∀ g, lv1.ownBlock = some g → lv.ownBlock = some g ∨ w.heap.size ≤ g := fun g hg => .inl (hl1 ▸ hg)
  obtain ⟨y, hye⟩ : ∃ y, ms.getD a.toNat default = y := ⟨_, rfl⟩
  rw [hye] at hd1 ⊢
  obtain ⟨f', t', xs'⟩ := y
  dsimp only at hd1 ⊢
  obtain ⟨A', c', rfl⟩ := own_shape hd1
  have HD1 := Lib.hid hd1
  clear hye hd1
  have hcw : Chg (fun i => i = p ∨ lv.ownBlock = some i) w W8 := (HU7.out.mono (fun _ _ h => h.elim)).then hc1 (fun i hi => .inl hi)
  have ho8 := hc1.heap HO7.out HOUT.out
  have hx8 := HX.out.net HN.out hcw
  have HN1 := Lib.hid hn1
  have HLB := Lib.hid (show ∀ g, lv1.ownBlock = some g → lv.ownBlock = some g ∨ w.heap.size ≤ g from hlb)
  have HCW := Lib.hid hcw
  have HX8 := Lib.hid hx8
  have HO8 := Lib.hid ho8
  clear hcw ho8 hx8 hn1 hlb hc1
  go_wp2_with fail
  obtain ⟨W9, hW9⟩ : ∃ W, W = W8.alloc (.cells #[.int .i64 f', .int .i64 t', .slice A' xs'.length c'] 29) := ⟨_, rfl⟩
  obtain ⟨g14, hg14⟩ : ∃ g, g = W8.heap.size := ⟨_, rfl⟩
  rw [← hW9, ← hg14]
  have hl9 : W9.heap[g14]? = some (.cells #[.int .i64 f', .int .i64 t', .slice A' xs'.length c'] 29 (0, 0)) := by rw [hW9, hg14]; exact heap_alloc_last _ _
  have hu9 : Up W8 W9.drew := by rw [hW9]; exact ((Chg.refl _ _).alloc _).drew
  have L0 : Hid (W9.drew.cell? ⟨g14, 0, none⟩ = some (.int .i64 f')) := Lib.hid (cell_of_row W9 g14 0 _ _ _ hl9)
  have L1 : Hid (W9.drew.cell? ⟨g14, 1, none⟩ = some (.int .i64 t')) := Lib.hid (cell_of_row W9 g14 1 _ _ _ hl9)
  have L2 : Hid (W9.drew.cell? ⟨g14, 2, none⟩ = some (.slice A' xs'.length c')) := Lib.hid (cell_of_row W9 g14 2 _ _ _ hl9)
  have HD9 : Hid (SlB W9.drew (.slice A' xs'.length c') xs') := Lib.hid (DatB.slb (HD1.out.chg hu9 (fun _ _ _ h => h.elim)))
  obtain ⟨st, hst⟩ : ∃ s, strOfNums xs' = s := ⟨_, rfl⟩
  have HST := Lib.hid hst
  clear hst
  have HU9 := Lib.hid hu9
  clear hl9 hu9 hW9 hg14
  refine MT.region_mono Up [fun v _ => v = .slice Ax ls.length cx,
      fun v _ => v = .int .i64 0,
      fun v _ => v = .int .i64 11,
      fun v _ => v = .bool false,
      fun v _ => v = .bool false,
      fun _ _ => True,
      fun _ _ => True,
      fun _ _ => True,
      fun _ _ => True,
      fun v _ => v = .bool false,
      fun v _ => v = .slice Ax ls.length cx] (by kernel_rfl) (by kernel_rfl) (Chg.refl _) (fun _ _ _ => Chg.trans) (by simp) ?_ ?_ ?_
  · simp only [List.forall_mem_cons]
    exact ⟨fun _ _ _ _ _ h => h, fun _ _ _ _ _ h => h, fun _ _ _ _ _ h => h, fun _ _ _ _ _ h => h, fun _ _ _ _ _ h => h, fun _ _ _ _ _ h => h, fun _ _ _ _ _ h => h, fun _ _ _ _ _ h => h, fun _ _ _ _ _ h => h, fun _ _ _ _ _ h => h, fun _ _ _ _ _ h => h, by simp⟩
  · refine ⟨?_, ?_, ?_, ?_, ?_, ?_, ?_, ?_, ?_, ?_, ?_, trivial⟩
    · intro ρ w1 hw h0 hc hg hf hd
      have s1 : ρ (.tmp 1) = .slice Ax ls.length cx := h0 1 (by kernel_rfl)
      refine ⟨fun _ => ?_, fun h => by cases h⟩
      clear h0 hg hd
      exact gives_move rfl ⟨Chg.refl _ _, s1⟩
    · intro ρ w1 hw h0 hc hg hf hd
      have s15 : ρ (.tmp 15) = .int .i64 0 := h0 15 (by kernel_rfl)
      refine ⟨fun _ => ?_, fun h => by cases h⟩
      clear h0 hg hd
      exact gives_move rfl ⟨Chg.refl _ _, s15⟩
    · intro ρ w1 hw h0 hc hg hf hd
      have s9 : ρ (.tmp 9) = .int .i64 11 := h0 9 (by kernel_rfl)
      refine ⟨fun _ => ?_, fun h => by cases h⟩
      clear h0 hg hd
      exact gives_move rfl ⟨Chg.refl _ _, s9⟩
    · intro ρ w1 hw h0 hc hg hf hd
      have d1 := hd ⟨1, .data⟩ (by simp) rfl _ _ _ rfl rfl rfl
      have d2 := hd ⟨2, .data⟩ (by simp) rfl _ _ _ rfl rfl rfl
      refine ⟨fun _ => ?_, fun h => by cases h⟩
      clear h0 hg hd
      clear hf
      refine Gives.value (w' := w1) ?_ ⟨Chg.refl _ _, rfl⟩
      go_simp
    · intro ρ w1 hw h0 hc hg hf hd
      have d3 := hd ⟨3, .data⟩ (by simp) rfl _ _ _ rfl rfl rfl
      refine ⟨fun _ => ?_, fun h => by cases h⟩
      clear h0 hg hd
      exact gives_move rfl ⟨Chg.refl _ _, d3⟩
    · intro ρ w1 hw h0 hc hg hf hd
      have d4 := hd ⟨4, .guard⟩ (by simp) rfl _ _ _ rfl rfl rfl
      exact ⟨fun hx => (by rw [wantedBy_false rfl rfl rfl d4] at hx; cases hx), fun _ => trivial⟩
    · intro ρ w1 hw h0 hc hg hf hd
      have d4 := hd ⟨4, .guard⟩ (by simp) rfl _ _ _ rfl rfl rfl
      exact ⟨fun hx => (by rw [wantedBy_false rfl rfl rfl d4] at hx; cases hx), fun _ => trivial⟩
    · intro ρ w1 hw h0 hc hg hf hd
      have d4 := hd ⟨4, .guard⟩ (by simp) rfl _ _ _ rfl rfl rfl
      exact ⟨fun hx => (by rw [wantedBy_false rfl rfl rfl d4] at hx; cases hx), fun _ => trivial⟩
    · intro ρ w1 hw h0 hc hg hf hd
      have d4 := hd ⟨4, .guard⟩ (by simp) rfl _ _ _ rfl rfl rfl
      exact ⟨fun hx => (by rw [wantedBy_false rfl rfl rfl d4] at hx; cases hx), fun _ => trivial⟩
    · intro ρ w1 hw h0 hc hg hf hd
      have d4 := hd ⟨4, .data⟩ (by simp) rfl _ _ _ rfl rfl rfl
      have d8 := hd ⟨8, .data⟩ (by simp) rfl _ _ _ rfl rfl rfl
      refine ⟨fun _ => ?_, fun h => by cases h⟩
      clear h0 hg hd
      clear hf
      refine Gives.value (w' := w1) ?_ ⟨Chg.refl _ _, rfl⟩
      go_simp
    · intro ρ w1 hw h0 hc hg hf hd
      have d0 := hd ⟨0, .data⟩ (by simp) rfl _ _ _ rfl rfl rfl
      refine ⟨fun _ => ?_, fun h => by cases h⟩
      clear h0 hg hd
      exact gives_assign rfl ⟨Chg.refl _ _, d0⟩
  · intro vs w9 hw hr
    have h9 := hr 9 _ rfl
    have h10 := hr 10 _ rfl
    clear hr
    dsimp only [putsL, restL]
    simp only [Act.put, List.setIfInBounds_toArray, List.set_cons_zero, List.set_cons_succ]
    rw [h9, h10]
    have HUW := Lib.hid (HU9.out.trans hw)
    clear hw h9 h10
    go_wp2_with fail
    go_ret2
    exact ⟨_, _, lv1, _, rfl, HN1.out.up HUW.out, own_chg HX8.out HUW.out (fun _ _ h => h), ((HCW.out.then HUW.out (fun i hi => hi.elim))).mono (fun i _ hi => hi.imp id .inl), HLB.out⟩
set_option maxRecDepth 100000 in
set_option maxHeartbeats 4000000 in
theorem stepG2co (w : World) (p : Nat) (lv : Value) (ds : List Value) (ls : List Let) (sent : Int) (ms : List Let) (h : NetAt w p lv ds ms sent) (hn : ms.length < 1024) (hnl : ls.length < 1024) (hx : ∀ j, j < ms.length → (ms.getD j default).2.2.length ≤ 1000000) (xv : Value) (hX : XAt w 0 xv ls) (a f t : Int) (d : Value) (xs : List Int) (hd : SlB w d xs) (hnx : xs.length ≤ 1000) (ha0 : 0 ≤ a) (ha : ¬ a < (ls.length : Int)) (hm : atI ms a = false) :
    Calls Try.prog 15 #[.pointer (some ⟨p, 0, none⟩), xv, .agg #[.int .i64 2, .int .i64 a, .int .i64 f, .int .i64 t, d]] w (StepG p lv xv ls (stepI ms 2 a f t xs) (sent + stepS 2 f t) w) := by
  obtain ⟨Ax, cx, rfl⟩ := own_shape hX
  obtain ⟨A, c, rfl, hl1, hl2⟩ := hd.shape
  rw [stepS_not (show (2 : Int) ≠ 1 by decide), Int.add_zero]
  obtain ⟨W7, hW7⟩ : ∃ W, W = w.alloc (.cells #[.int .i64 2, .int .i64 a, .int .i64 f, .int .i64 t, .slice A xs.length c] 36) := ⟨_, rfl⟩
  have hu7 : Up w W7 := by rw [hW7]; exact (Chg.refl _ w).alloc _
  have ho7 : W7.heap[w.heap.size]? = some (.cells #[.int .i64 2, .int .i64 a, .int .i64 f, .int .i64 t, .slice A xs.length c] 36 (0, 0)) := by rw [hW7]; exact heap_alloc_last w _
  have hlt : w.heap.size < W7.heap.size := (Array.getElem?_eq_some_iff.1 ho7).1
  have hout : ¬ (w.heap.size = p ∨ lv.ownBlock = some w.heap.size) := fun hs => by
    rcases hs with hs | hs
    · have := (Array.getElem?_eq_some_iff.1 h.obj).1; omega
    · have := own_lt h.row _ hs; omega
  have e0 : stepI ms 2 a f t xs = ms := stepI_not (by decide) hm
  have HC := Lib.hid (take_any W7 p lv ds ms sent a (h.up hu7) (by omega))
  have HN := Lib.hid h
  have HX := Lib.hid hX
  have HD := Lib.hid hd
  have HU7 := Lib.hid hu7
  have HO7 := Lib.hid ho7
  have HW7 := Lib.hid hW7
  have HM := Lib.hid hm
  have HE0 := Lib.hid e0
  have HOUT := Lib.hid hout
  clear h hX hd hu7 ho7 hW7 hm hx e0 hout hlt
  rw [HE0.out]
  go_enter Try.func15, Try.ntmps15
  go_wp2_with fail
  rw [← HW7.out]
  refine HC.out.mono ?_
  intro e W8 hdp
  rcases hdp with ⟨_, rfl, hu8⟩ | ⟨hat, _⟩
  case inr => rw [HM.out] at hat; cases hat
  have hcw : Chg (fun i => i = p ∨ lv.ownBlock = some i) w W8 := (HU7.out.trans hu8).mono (fun _ _ h => h.elim)
  have ho8 := hu8.heap HO7.out (fun h => h)
  have hx8 := HX.out.net HN.out hcw
  have HN1 := Lib.hid (HN.out.up (HU7.out.trans hu8))
  have HLB := Lib.hid (show ∀ g, lv.ownBlock = some g → lv.ownBlock = some g ∨ w.heap.size ≤ g from fun g hg => .inl hg)
  have HCW := Lib.hid hcw
  have HX8 := Lib.hid hx8
  have HO8 := Lib.hid ho8
  clear hcw ho8 hx8 hu8
  go_wp2_with fail
  obtain ⟨W9, hW9⟩ : ∃ W, W = W8.alloc (.cells #[.int .i64 0, .int .i64 0, .slice none 0 0] 29) := ⟨_, rfl⟩
  obtain ⟨g14, hg14⟩ : ∃ g, g = W8.heap.size := ⟨_, rfl⟩
  rw [← hW9, ← hg14]
  have hl9 : W9.heap[g14]? = some (.cells #[.int .i64 0, .int .i64 0, .slice none 0 0] 29 (0, 0)) := by rw [hW9, hg14]; exact heap_alloc_last _ _
  have hu9 : Up W8 W9.drew := by rw [hW9]; exact ((Chg.refl _ _).alloc _).drew
  have L2 : Hid (W9.drew.cell? ⟨g14, 2, none⟩ = some (.slice none 0 0)) := Lib.hid (cell_of_row W9 g14 2 _ _ _ hl9)
  have HU9 := Lib.hid hu9
  clear hl9 hu9 hW9 hg14
  refine MT.region_mono Up [fun v _ => v = .slice Ax ls.length cx,
      fun v _ => v = .int .i64 11,
      fun v _ => v = .int .i64 11,
      fun v _ => v = .bool true,
      fun v _ => v = .bool true,
      fun v _ => v = .pointer (some ⟨g14, 2, none⟩),
      fun v _ => v = .slice none 0 0,
      fun v _ => v = .int .i64 0,
      fun v _ => v = .bool true,
      fun v _ => v = .bool true,
      fun v _ => v = .slice Ax ls.length cx] (by kernel_rfl) (by kernel_rfl) (Chg.refl _) (fun _ _ _ => Chg.trans) (by simp) ?_ ?_ ?_
  · simp only [List.forall_mem_cons]
    exact ⟨fun _ _ _ _ _ h => h, fun _ _ _ _ _ h => h, fun _ _ _ _ _ h => h, fun _ _ _ _ _ h => h, fun _ _ _ _ _ h => h, fun _ _ _ _ _ h => h, fun _ _ _ _ _ h => h, fun _ _ _ _ _ h => h, fun _ _ _ _ _ h => h, fun _ _ _ _ _ h => h, fun _ _ _ _ _ h => h, by simp⟩
  · refine ⟨?_, ?_, ?_, ?_, ?_, ?_, ?_, ?_, ?_, ?_, ?_, trivial⟩
    · intro ρ w1 hw h0 hc hg hf hd
      have s1 : ρ (.tmp 1) = .slice Ax ls.length cx := h0 1 (by kernel_rfl)
      refine ⟨fun _ => ?_, fun h => by cases h⟩
      clear h0 hg hd
      exact gives_move rfl ⟨Chg.refl _ _, s1⟩
    · intro ρ w1 hw h0 hc hg hf hd
      have s15 : ρ (.tmp 15) = .int .i64 11 := h0 15 (by kernel_rfl)
      refine ⟨fun _ => ?_, fun h => by cases h⟩
      clear h0 hg hd
      exact gives_move rfl ⟨Chg.refl _ _, s15⟩
    · intro ρ w1 hw h0 hc hg hf hd
      have s9 : ρ (.tmp 9) = .int .i64 11 := h0 9 (by kernel_rfl)
      refine ⟨fun _ => ?_, fun h => by cases h⟩
      clear h0 hg hd
      exact gives_move rfl ⟨Chg.refl _ _, s9⟩
    · intro ρ w1 hw h0 hc hg hf hd
      have d1 := hd ⟨1, .data⟩ (by simp) rfl _ _ _ rfl rfl rfl
      have d2 := hd ⟨2, .data⟩ (by simp) rfl _ _ _ rfl rfl rfl
      refine ⟨fun _ => ?_, fun h => by cases h⟩
      clear h0 hg hd
      clear hf
      refine Gives.value (w' := w1) ?_ ⟨Chg.refl _ _, rfl⟩
      go_simp
    · intro ρ w1 hw h0 hc hg hf hd
      have d3 := hd ⟨3, .data⟩ (by simp) rfl _ _ _ rfl rfl rfl
      refine ⟨fun _ => ?_, fun h => by cases h⟩
      clear h0 hg hd
      exact gives_move rfl ⟨Chg.refl _ _, d3⟩
    · intro ρ w1 hw h0 hc hg hf hd
      have d4 := hd ⟨4, .guard⟩ (by simp) rfl _ _ _ rfl rfl rfl
      have s14 : ρ (.tmp 14) = .pointer (some ⟨g14, 0, none⟩) := h0 14 (by kernel_rfl)
      refine ⟨fun _ => ?_, fun h => by rw [wantedBy_true rfl rfl rfl d4] at h; cases h⟩
      clear d4
      clear h0 hg hd
      clear hf
      refine Gives.value (w' := w1) ?_ ⟨Chg.refl _ _, rfl⟩
      go_simp
    · intro ρ w1 hw h0 hc hg hf hd
      have d5 := hd ⟨5, .data⟩ (by simp) rfl _ _ _ rfl rfl rfl
      have d4 := hd ⟨4, .guard⟩ (by simp) rfl _ _ _ rfl rfl rfl
      refine ⟨fun _ => ?_, fun h => by rw [wantedBy_true rfl rfl rfl d4] at h; cases h⟩
      clear d4
      clear h0 hg hd
      clear hc hf
      have l0 := hw.cell L2.out (fun h => h)
      refine Gives.value (w' := w1) ?_ ⟨Chg.refl _ _, rfl⟩
      go_simp
    · intro ρ w1 hw h0 hc hg hf hd
      have d6 := hd ⟨6, .data⟩ (by simp) rfl _ _ _ rfl rfl rfl
      have d4 := hd ⟨4, .guard⟩ (by simp) rfl _ _ _ rfl rfl rfl
      refine ⟨fun _ => ?_, fun h => by rw [wantedBy_true rfl rfl rfl d4] at h; cases h⟩
      clear d4
      clear h0 hg hd
      clear hf
      refine Gives.value (w' := w1) ?_ ⟨Chg.refl _ _, rfl⟩
      go_simp
    · intro ρ w1 hw h0 hc hg hf hd
      have d7 := hd ⟨7, .data⟩ (by simp) rfl _ _ _ rfl rfl rfl
      have d4 := hd ⟨4, .guard⟩ (by simp) rfl _ _ _ rfl rfl rfl
      refine ⟨fun _ => ?_, fun h => by rw [wantedBy_true rfl rfl rfl d4] at h; cases h⟩
      clear d4
      clear h0 hg hd
      clear hf
      refine Gives.value (w' := w1) ?_ ⟨Chg.refl _ _, rfl⟩
      go_simp
    · intro ρ w1 hw h0 hc hg hf hd
      have d4 := hd ⟨4, .data⟩ (by simp) rfl _ _ _ rfl rfl rfl
      have d8 := hd ⟨8, .data⟩ (by simp) rfl _ _ _ rfl rfl rfl
      refine ⟨fun _ => ?_, fun h => by cases h⟩
      clear h0 hg hd
      clear hf
      refine Gives.value (w' := w1) ?_ ⟨Chg.refl _ _, rfl⟩
      go_simp
    · intro ρ w1 hw h0 hc hg hf hd
      have d0 := hd ⟨0, .data⟩ (by simp) rfl _ _ _ rfl rfl rfl
      refine ⟨fun _ => ?_, fun h => by cases h⟩
      clear h0 hg hd
      exact gives_assign rfl ⟨Chg.refl _ _, d0⟩
  · intro vs w9 hw hr
    have h9 := hr 9 _ rfl
    have h10 := hr 10 _ rfl
    clear hr
    dsimp only [putsL, restL]
    simp only [Act.put, List.setIfInBounds_toArray, List.set_cons_zero, List.set_cons_succ]
    rw [h9, h10]
    have HUW := Lib.hid (HU9.out.trans hw)
    clear hw h9 h10
    go_wp2_with fail
    go_ret2
    exact ⟨_, _, lv, ds, rfl, HN1.out.up HUW.out, own_chg HX8.out HUW.out (fun _ _ h => h), ((HCW.out.then HUW.out (fun i hi => hi.elim))).mono (fun i _ hi => hi.imp id .inl), HLB.out⟩
theorem stepG_any (w : World) (p : Nat) (lv : Value) (ds : List Value) (ls : List Let) (sent : Int) (ms : List Let) (h : NetAt w p lv ds ms sent) (hn : ms.length < 1024) (hnl : ls.length < 1024) (hx : ∀ j, j < ms.length → (ms.getD j default).2.2.length ≤ 1000000) (xv : Value) (hX : XAt w 0 xv ls) (kd a f t : Int) (d : Value) (xs : List Int) (hd : SlB w d xs) (hnx : xs.length ≤ 1000) (hs0 : 0 ≤ sent) (hs1 : sent ≤ 1000000) (hdl : ∀ b, Value.blk d = some b → 0 < xs.length → b ≠ p ∧ lv.ownBlock ≠ some b) :
    Calls Try.prog 15 #[.pointer (some ⟨p, 0, none⟩), xv, .agg #[.int .i64 kd, .int .i64 a, .int .i64 f, .int .i64 t, d]] w (StepG p lv xv ls (stepI ms kd a f t xs) (sent + stepS kd f t) w) := by
  by_cases h1 : kd = 1
  · subst h1
    by_cases ha : a < 0
    · exact stepG1a w p lv ds ls sent ms h hs0 hs1 hn hnl xv hX a f t d xs hd hnx ha
    · by_cases hb : a < (ls.length : Int)
      · exact stepG1b w p lv ds ls sent ms h hs0 hs1 hn hnl xv hX a f t d xs hd hnx (by omega) hb
      · exact stepG1c w p lv ds ls sent ms h hs0 hs1 hn hnl xv hX a f t d xs hd hnx (by omega) hb
  by_cases h2 : kd = 2
  · subst h2
    by_cases ha : a < 0
    · cases hm : atI ms a with
      | true => exact stepG2ai w p lv ds ls sent ms h hn hnl hx xv hX a f t d xs hd hnx ha hm
      | false => exact stepG2ao w p lv ds ls sent ms h hn hnl hx xv hX a f t d xs hd hnx ha hm
    · by_cases hb : a < (ls.length : Int)
      · cases hm : atI ms a with
        | true => exact stepG2bi w p lv ds ls sent ms h hn hnl hx xv hX a f t d xs hd hnx (by omega) hb hm
        | false => exact stepG2bo w p lv ds ls sent ms h hn hnl hx xv hX a f t d xs hd hnx (by omega) hb hm
      · cases hm : atI ms a with
        | true => exact stepG2ci w p lv ds ls sent ms h hn hnl hx xv hX a f t d xs hd hnx (by omega) hb hm
        | false => exact stepG2co w p lv ds ls sent ms h hn hnl hx xv hX a f t d xs hd hnx (by omega) hb hm
  by_cases h3 : kd = 3
  · subst h3
    by_cases ha : a < 0
    · cases hm : atI ms a with
      | true => exact stepG3ai w p lv ds ls sent ms h hn hnl hx xv hX a f t d xs hd hnx ha hm
      | false => exact stepG3ao w p lv ds ls sent ms h hn hnl hx xv hX a f t d xs hd hnx ha hm
    · by_cases hb : a < (ls.length : Int)
      · cases hm : atI ms a with
        | true => exact stepG3bi w p lv ds ls sent ms h hn hnl hx xv hX a f t d xs hd hnx (by omega) hb hm
        | false => exact stepG3bo w p lv ds ls sent ms h hn hnl hx xv hX a f t d xs hd hnx (by omega) hb hm
      · cases hm : atI ms a with
        | true => exact stepG3ci w p lv ds ls sent ms h hn hnl hx xv hX a f t d xs hd hnx (by omega) hb hm
        | false => exact stepG3co w p lv ds ls sent ms h hn hnl hx xv hX a f t d xs hd hnx (by omega) hb hm
  by_cases h4 : kd = 4
  · subst h4
    by_cases ha : a < 0
    · cases hm : atI ms a with
      | true => exact stepG4ai w p lv ds ls sent ms h hn hnl hx xv hX a f t d xs hd hnx ha hm
      | false => exact stepG4ao w p lv ds ls sent ms h hn hnl hx xv hX a f t d xs hd hnx ha hm
    · by_cases hb : a < (ls.length : Int)
      · cases hm : atI ms a with
        | true => exact stepG4bi w p lv ds ls sent ms h hn hnl hx xv hX a f t d xs hd hnx (by omega) hb hm
        | false => exact stepG4bo w p lv ds ls sent ms h hn hnl hx xv hX a f t d xs hd hnx (by omega) hb hm
      · cases hm : atI ms a with
        | true => exact stepG4ci w p lv ds ls sent ms h hn hnl hx xv hX a f t d xs hd hnx (by omega) hb hm
        | false => exact stepG4co w p lv ds ls sent ms h hn hnl hx xv hX a f t d xs hd hnx (by omega) hb hm
  by_cases h5 : kd = 5
  · subst h5
    by_cases ha : a < 0
    · cases hm : atI ms a with
      | true => exact stepG5ai w p lv ds ls sent ms h hn hnl hx xv hX a f t d xs hd hnx ha hm
      | false => exact stepG5ao w p lv ds ls sent ms h hn hnl hx xv hX a f t d xs hd hnx ha hm
    · by_cases hb : a < (ls.length : Int)
      · cases hm : atI ms a with
        | true => exact stepG5bi w p lv ds ls sent ms h hn hnl hx xv hX a f t d xs hd hnx (by omega) hb hm hdl
        | false => exact stepG5bo w p lv ds ls sent ms h hn hnl hx xv hX a f t d xs hd hnx (by omega) hb hm hdl
      · cases hm : atI ms a with
        | true => exact stepG5ci w p lv ds ls sent ms h hn hnl hx xv hX a f t d xs hd hnx (by omega) hb hm
        | false => exact stepG5co w p lv ds ls sent ms h hn hnl hx xv hX a f t d xs hd hnx (by omega) hb hm
  by_cases ha : a < 0
  · exact stepGXa w p lv ds ls sent ms h hn hnl hx xv hX a f t d xs hd hnx ha kd h1 h2 h3 h4 h5
  · by_cases hb : a < (ls.length : Int)
    · exact stepGXb w p lv ds ls sent ms h hn hnl hx xv hX a f t d xs hd hnx (by omega) hb kd h1 h2 h3 h4 h5
    · exact stepGXc w p lv ds ls sent ms h hn hnl hx xv hX a f t d xs hd hnx (by omega) hb kd h1 h2 h3 h4 h5
end Go.Proofs.Ytofmblkmfbioiaa
