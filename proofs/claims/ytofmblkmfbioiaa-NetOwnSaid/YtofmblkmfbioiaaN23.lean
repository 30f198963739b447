/-
  step, walked: a letter is taken; all calls.
-/
import Derived.Test.YtofmblkmfbioiaaN22
namespace Go.Proofs.Ytofmblkmfbioiaa
open Go.RowKit
theorem eq49 (f t : Int) (st : ByteArray) (W : World) : (binOp .eql 49 (.agg #[.int .i64 f, .int .i64 t, .string st]) (.agg #[.int .i64 f, .int .i64 t, .string st])).run Try.prog W = .ok (.bool true) W := by
  go_simp
def XV (b : Nat) (ls : List Let) (v : Value) (W : World) : Prop := ∃ B c, v = .slice B ls.length c ∧ XAt W b (.slice B ls.length c) ls
theorem XV.up {b : Nat} {ls : List Let} {v : Value} {W W' : World} (h : XV b ls v W) (hu : Up W W') : XV b ls v W' := by
  obtain ⟨B, c, e, h1⟩ := h
  exact ⟨B, c, e, own_chg h1 hu (fun _ _ h => h)⟩
set_option maxRecDepth 100000 in
set_option maxHeartbeats 4000000 in
theorem step2a (w : World) (p : Nat) (lv : Value) (ds : List Value) (ls : List Let) (sent : Int) (h : NetAt w p lv ds ls sent) (hn : ls.length < 1024) (hx : ∀ j, j < ls.length → (ls.getD j default).2.2.length ≤ 1000000) (xv : Value) (hX : XAt w 0 xv ls) (a f t : Int) (d : Value) (xs : List Int) (hd : SlB w d xs) (hnx : xs.length ≤ 1000) (ha : a < 0) :
    Calls Try.prog 15 #[.pointer (some ⟨p, 0, none⟩), xv, .agg #[.int .i64 2, .int .i64 a, .int .i64 f, .int .i64 t, d]] w (StepPost p lv xv (stepI ls 2 a f t xs) (sent + stepS 2 f t) w) := by
  obtain ⟨Ax, cx, rfl⟩ := own_shape hX
  obtain ⟨A, c, rfl, hl1, hl2⟩ := hd.shape
  rw [stepS_not (show (2 : Int) ≠ 1 by decide), Int.add_zero]
  have hat := atI_neg (ls := ls) ha
  rw [stepI_not (show (2 : Int) ≠ 1 by decide) hat]
  obtain ⟨W7, hW7⟩ : ∃ W, W = w.alloc (.cells #[.int .i64 2, .int .i64 a, .int .i64 f, .int .i64 t, .slice A xs.length c] 36) := ⟨_, rfl⟩
  have hu7 : Up w W7 := by rw [hW7]; exact (Chg.refl _ w).alloc _
  have ho7 : W7.heap[w.heap.size]? = some (.cells #[.int .i64 2, .int .i64 a, .int .i64 f, .int .i64 t, .slice A xs.length c] 36 (0, 0)) := by rw [hW7]; exact heap_alloc_last w _
  have HC := Lib.hid (take_any W7 p lv ds ls sent a (h.up hu7) (by omega))
  have HN := Lib.hid h
  have HX := Lib.hid hX
  have HD := Lib.hid hd
  have HU7 := Lib.hid hu7
  have HO7 := Lib.hid ho7
  have HW7 := Lib.hid hW7
  have HAT := Lib.hid hat
  have HXL := Lib.hid hx
  clear h hX hd hu7 ho7 hW7 hat hx
  go_enter Try.func15, Try.ntmps15
  go_wp2_with fail
  rw [← HW7.out]
  refine HC.out.mono ?_
  intro e W8 hdp
  rcases hdp with ⟨_, rfl, hu8⟩ | ⟨hat, _⟩
  · have HU8 := Lib.hid (HU7.out.trans hu8)
    clear hu8 HC
    go_wp2_with fail
    obtain ⟨W9, hW9⟩ : ∃ W, W = W8.alloc (.cells #[.int .i64 0, .int .i64 0, .slice none 0 0] 29) := ⟨_, rfl⟩
    obtain ⟨g14, hg14⟩ : ∃ g, g = W8.heap.size := ⟨_, rfl⟩
    rw [← hW9, ← hg14]
    have hl9 : W9.heap[g14]? = some (.cells #[.int .i64 0, .int .i64 0, .slice none 0 0] 29 (0, 0)) := by rw [hW9, hg14]; exact heap_alloc_last _ _
    have hu9 : Up w W9 := by rw [hW9]; exact HU8.out.alloc _
    have L2 : Hid (W9.drew.cell? ⟨g14, 2, none⟩ = some (.slice none 0 0)) := Lib.hid (cell_of_row W9 g14 2 _ _ _ hl9)
    have HU9 := Lib.hid hu9
    clear hl9 hu9 hW9 hg14
    refine MT.region_mono Up [fun v _ => v = .slice Ax ls.length cx,
        fun v _ => v = .int .i64 11,
        fun v _ => v = .int .i64 11,
        fun v _ => v = .bool true,
        fun v _ => v = .bool true,
        fun v _ => v = .pointer (some ⟨g14, 2, none⟩),
        fun v _ => v = .slice none 0 0,
        fun v _ => v = .int .i64 0,
        fun v _ => v = .bool true,
        fun v _ => v = .bool true,
        fun v _ => v = .slice Ax ls.length cx] (by kernel_rfl) (by kernel_rfl) (Chg.refl _) (fun _ _ _ => Chg.trans) (by simp) ?_ ?_ ?_
    · simp only [List.forall_mem_cons]
      exact ⟨fun _ _ _ _ _ h => h, fun _ _ _ _ _ h => h, fun _ _ _ _ _ h => h, fun _ _ _ _ _ h => h, fun _ _ _ _ _ h => h, fun _ _ _ _ _ h => h, fun _ _ _ _ _ h => h, fun _ _ _ _ _ h => h, fun _ _ _ _ _ h => h, fun _ _ _ _ _ h => h, fun _ _ _ _ _ h => h, by simp⟩
    · refine ⟨?_, ?_, ?_, ?_, ?_, ?_, ?_, ?_, ?_, ?_, ?_, trivial⟩
      · intro ρ w1 hw h0 hc hg hf hd
        have s1 : ρ (.tmp 1) = .slice Ax ls.length cx := h0 1 (by kernel_rfl)
        refine ⟨fun _ => ?_, fun h => by cases h⟩
        clear h0 hg hd
        exact gives_move rfl ⟨Chg.refl _ _, s1⟩
      · intro ρ w1 hw h0 hc hg hf hd
        have s15 : ρ (.tmp 15) = .int .i64 11 := h0 15 (by kernel_rfl)
        refine ⟨fun _ => ?_, fun h => by cases h⟩
        clear h0 hg hd
        exact gives_move rfl ⟨Chg.refl _ _, s15⟩
      · intro ρ w1 hw h0 hc hg hf hd
        have s9 : ρ (.tmp 9) = .int .i64 11 := h0 9 (by kernel_rfl)
        refine ⟨fun _ => ?_, fun h => by cases h⟩
        clear h0 hg hd
        exact gives_move rfl ⟨Chg.refl _ _, s9⟩
      · intro ρ w1 hw h0 hc hg hf hd
        have d1 := hd ⟨1, .data⟩ (by simp) rfl _ _ _ rfl rfl rfl
        have d2 := hd ⟨2, .data⟩ (by simp) rfl _ _ _ rfl rfl rfl
        refine ⟨fun _ => ?_, fun h => by cases h⟩
        clear h0 hg hd
        clear hf
        refine Gives.value (w' := w1) ?_ ⟨Chg.refl _ _, rfl⟩
        go_simp
      · intro ρ w1 hw h0 hc hg hf hd
        have d3 := hd ⟨3, .data⟩ (by simp) rfl _ _ _ rfl rfl rfl
        refine ⟨fun _ => ?_, fun h => by cases h⟩
        clear h0 hg hd
        exact gives_move rfl ⟨Chg.refl _ _, d3⟩
      · intro ρ w1 hw h0 hc hg hf hd
        have d4 := hd ⟨4, .guard⟩ (by simp) rfl _ _ _ rfl rfl rfl
        have s14 : ρ (.tmp 14) = .pointer (some ⟨g14, 0, none⟩) := h0 14 (by kernel_rfl)
        refine ⟨fun _ => ?_, fun h => by rw [wantedBy_true rfl rfl rfl d4] at h; cases h⟩
        clear d4
        clear h0 hg hd
        clear hf
        refine Gives.value (w' := w1) ?_ ⟨Chg.refl _ _, rfl⟩
        go_simp
      · intro ρ w1 hw h0 hc hg hf hd
        have d5 := hd ⟨5, .data⟩ (by simp) rfl _ _ _ rfl rfl rfl
        have d4 := hd ⟨4, .guard⟩ (by simp) rfl _ _ _ rfl rfl rfl
        refine ⟨fun _ => ?_, fun h => by rw [wantedBy_true rfl rfl rfl d4] at h; cases h⟩
        clear d4
        clear h0 hg hd
        clear hc hf
        have l0 := hw.cell L2.out (fun h => h)
        refine Gives.value (w' := w1) ?_ ⟨Chg.refl _ _, rfl⟩
        go_simp
      · intro ρ w1 hw h0 hc hg hf hd
        have d6 := hd ⟨6, .data⟩ (by simp) rfl _ _ _ rfl rfl rfl
        have d4 := hd ⟨4, .guard⟩ (by simp) rfl _ _ _ rfl rfl rfl
        refine ⟨fun _ => ?_, fun h => by rw [wantedBy_true rfl rfl rfl d4] at h; cases h⟩
        clear d4
        clear h0 hg hd
        clear hf
        refine Gives.value (w' := w1) ?_ ⟨Chg.refl _ _, rfl⟩
        go_simp
      · intro ρ w1 hw h0 hc hg hf hd
        have d7 := hd ⟨7, .data⟩ (by simp) rfl _ _ _ rfl rfl rfl
        have d4 := hd ⟨4, .guard⟩ (by simp) rfl _ _ _ rfl rfl rfl
        refine ⟨fun _ => ?_, fun h => by rw [wantedBy_true rfl rfl rfl d4] at h; cases h⟩
        clear d4
        clear h0 hg hd
        clear hf
        refine Gives.value (w' := w1) ?_ ⟨Chg.refl _ _, rfl⟩
        go_simp
      · intro ρ w1 hw h0 hc hg hf hd
        have d4 := hd ⟨4, .data⟩ (by simp) rfl _ _ _ rfl rfl rfl
        have d8 := hd ⟨8, .data⟩ (by simp) rfl _ _ _ rfl rfl rfl
        refine ⟨fun _ => ?_, fun h => by cases h⟩
        clear h0 hg hd
        clear hf
        refine Gives.value (w' := w1) ?_ ⟨Chg.refl _ _, rfl⟩
        go_simp
      · intro ρ w1 hw h0 hc hg hf hd
        have d0 := hd ⟨0, .data⟩ (by simp) rfl _ _ _ rfl rfl rfl
        refine ⟨fun _ => ?_, fun h => by cases h⟩
        clear h0 hg hd
        exact gives_assign rfl ⟨Chg.refl _ _, d0⟩
    · intro vs w9 hw hr
      have h9 := hr 9 _ rfl
      have h10 := hr 10 _ rfl
      clear hr
      dsimp only [putsL, restL]
      simp only [Act.put, List.setIfInBounds_toArray, List.set_cons_zero, List.set_cons_succ]
      rw [h9, h10]
      have HU8 := Lib.hid ((HU9.out.trans (Chg.refl _ _).drew).trans hw)
      clear hw h9 h10
      go_wp2_with fail
      go_ret2
      exact ⟨Ax, cx, lv, ds, rfl, own_chg HX.out HU8.out (fun _ _ h => h), HN.out.up HU8.out, HU8.out.mono (fun _ _ h => h.elim), fun _ h => .inl h, fun _ h => .inl h⟩
  · rw [HAT.out] at hat
    cases hat
set_option maxRecDepth 100000 in
set_option maxHeartbeats 4000000 in
theorem step2b (w : World) (p : Nat) (lv : Value) (ds : List Value) (ls : List Let) (sent : Int) (h : NetAt w p lv ds ls sent) (hn : ls.length < 1024) (hx : ∀ j, j < ls.length → (ls.getD j default).2.2.length ≤ 1000000) (xv : Value) (hX : XAt w 0 xv ls) (a f t : Int) (d : Value) (xs : List Int) (hd : SlB w d xs) (hnx : xs.length ≤ 1000) (ha : 0 ≤ a) (ha2 : a < ls.length) :
    Calls Try.prog 15 #[.pointer (some ⟨p, 0, none⟩), xv, .agg #[.int .i64 2, .int .i64 a, .int .i64 f, .int .i64 t, d]] w (StepPost p lv xv (stepI ls 2 a f t xs) (sent + stepS 2 f t) w) := by
  obtain ⟨Ax, cx, rfl⟩ := own_shape hX
  obtain ⟨A, c, rfl, hl1, hl2⟩ := hd.shape
  rw [stepS_not (show (2 : Int) ≠ 1 by decide), Int.add_zero]
  have hat := atI_in ha ha2
  obtain ⟨W7, hW7⟩ : ∃ W, W = w.alloc (.cells #[.int .i64 2, .int .i64 a, .int .i64 f, .int .i64 t, .slice A xs.length c] 36) := ⟨_, rfl⟩
  have hu7 : Up w W7 := by rw [hW7]; exact (Chg.refl _ w).alloc _
  have ho7 : W7.heap[w.heap.size]? = some (.cells #[.int .i64 2, .int .i64 a, .int .i64 f, .int .i64 t, .slice A xs.length c] 36 (0, 0)) := by rw [hW7]; exact heap_alloc_last w _
  have HC := Lib.hid (take_any W7 p lv ds ls sent a (h.up hu7) (by omega))
  have HN := Lib.hid h
  have HX := Lib.hid hX
  have HD := Lib.hid hd
  have HU7 := Lib.hid hu7
  have HO7 := Lib.hid ho7
  have HW7 := Lib.hid hW7
  have HAT := Lib.hid hat
  have HXL := Lib.hid hx
  clear h hX hd hu7 ho7 hW7 hat hx
  go_enter Try.func15, Try.ntmps15
  go_wp2_with fail
  rw [← HW7.out]
  refine HC.out.mono ?_
  intro e W8 hdp
  rcases hdp with ⟨hat, _⟩ | ⟨_, d1, rfl, hd1, lv1, hn1, hl1, hc1⟩
  · rw [HAT.out] at hat
    cases hat
  have hlt : w.heap.size < W7.heap.size := (Array.getElem?_eq_some_iff.1 HO7.out).1
  have hout : ¬ (w.heap.size = p ∨ lv.ownBlock = some w.heap.size) := fun hs => by
    rcases hs with hs | hs
    · have := (Array.getElem?_eq_some_iff.1 HN.out.obj).1; omega
    · have := own_lt HN.out.row _ hs; omega
  have ho8 := hc1.heap HO7.out hout
  have hcw : Chg (fun i => i = p ∨ lv.ownBlock = some i) w W8 := (HU7.out.mono (fun _ _ h => h.elim)).then hc1 (fun i hi => .inl hi)
  have hx8 := HX.out.net HN.out hcw
  obtain ⟨k, rfl, hk⟩ := atI_nat HAT.out
  rw [Int.toNat_natCast] at hn1 hd1 ⊢
  obtain ⟨gx, rfl⟩ : ∃ g, Ax = some ⟨g, 0, none⟩ := by
    rcases hx8.2 with ⟨h0, hz⟩ | ⟨g, cap, cur, he, _⟩
    · omega
    · injection he with e1; exact ⟨g, e1⟩
  obtain ⟨y, hye⟩ : ∃ y, ls.getD k default = y := ⟨_, rfl⟩
  rw [hye] at hd1 ⊢
  obtain ⟨f', t', xs'⟩ := y
  dsimp only at hd1 ⊢
  obtain ⟨A', c', rfl⟩ := own_shape hd1
  obtain ⟨st, hst⟩ : ∃ s, strOfNums xs' = s := ⟨_, rfl⟩
  have HST := Lib.hid hst
  have HN1 := Lib.hid hn1
  have HL1 := Lib.hid hl1
  have HCW := Lib.hid hcw
  have HX8 := Lib.hid hx8
  have HO8 := Lib.hid ho8
  have HD1 := Lib.hid hd1
  have HYE := Lib.hid hye
  clear hst hn1 hl1 hc1 hlt hout ho8 hcw hx8 hd1 hye
  go_wp2_with fail
  obtain ⟨W9, hW9⟩ : ∃ W, W = W8.alloc (.cells #[.int .i64 f', .int .i64 t', .slice A' xs'.length c'] 29) := ⟨_, rfl⟩
  obtain ⟨g14, hg14⟩ : ∃ g, g = W8.heap.size := ⟨_, rfl⟩
  rw [← hW9, ← hg14]
  have hl9 : W9.heap[g14]? = some (.cells #[.int .i64 f', .int .i64 t', .slice A' xs'.length c'] 29 (0, 0)) := by rw [hW9, hg14]; exact heap_alloc_last _ _
  have hu9 : Up W8 W9.drew := by rw [hW9]; exact ((Chg.refl _ _).alloc _).drew
  have L0 : Hid (W9.drew.cell? ⟨g14, 0, none⟩ = some (.int .i64 f')) := Lib.hid (cell_of_row W9 g14 0 _ _ _ hl9)
  have L1 : Hid (W9.drew.cell? ⟨g14, 1, none⟩ = some (.int .i64 t')) := Lib.hid (cell_of_row W9 g14 1 _ _ _ hl9)
  have L2 : Hid (W9.drew.cell? ⟨g14, 2, none⟩ = some (.slice A' xs'.length c')) := Lib.hid (cell_of_row W9 g14 2 _ _ _ hl9)
  have O1 : Hid (W9.drew.cell? ⟨w.heap.size, 1, none⟩ = some (.int .i64 (k : Int))) := Lib.hid (hu9.cell (cell_of_row W8 w.heap.size 1 _ _ _ HO8.out) (fun h => h))
  have HX9 : Hid (XAt W9.drew 0 (.slice (some ⟨gx, 0, none⟩) ls.length cx) ls) := Lib.hid (own_chg HX8.out hu9 (fun _ _ h => h))
  have HD9 : Hid (SlB W9.drew (.slice A' xs'.length c') xs') := Lib.hid (DatB.slb (HD1.out.chg hu9 (fun _ _ _ h => h.elim)))
  obtain ⟨s0, s1, s2⟩ := HX9.out.cells k hk
  rw [HYE.out] at s0 s1 s2
  dsimp only at s0 s1 s2
  rw [HST.out] at s2
  have M0 := Lib.hid s0
  have M1 := Lib.hid s1
  have M2 := Lib.hid s2
  have HSZ := Lib.hid (Nat.le_trans HCW.out.size hu9.size)
  have HU9 := Lib.hid hu9
  clear hl9 hu9 hW9 hg14 s0 s1 s2
  refine MT.region_mono Up [fun v _ => v = .slice (some ⟨gx, 0, none⟩) ls.length cx,
      fun v _ => v = .pointer (some ⟨w.heap.size, 1, none⟩),
      fun v _ => v = .int .i64 (k : Int),
      XV w.heap.size (ls.eraseIdx k),
      fun v _ => v = .int .i64 0,
      fun v _ => v = .bool true,
      fun v _ => v = .bool true,
      fun v _ => v = .agg #[.int .i64 f', .int .i64 t', .slice A' xs'.length c'],
      fun v _ => v = .agg #[.int .i64 f', .int .i64 t', .string st],
      fun v _ => v = .slice (some ⟨gx, 0, none⟩) ls.length cx,
      fun v _ => v = .pointer (some ⟨w.heap.size, 1, none⟩),
      fun v _ => v = .int .i64 (k : Int),
      fun v _ => v = .pointer (some ⟨gx, k * 3, none⟩),
      fun v _ => v = .agg #[.int .i64 f', .int .i64 t', .string st],
      fun v _ => v = .bool true,
      fun v _ => v = .bool true,
      XV w.heap.size (ls.eraseIdx k)] (by kernel_rfl) (by kernel_rfl) (Chg.refl _) (fun _ _ _ => Chg.trans) (by simp) ?_ ?_ ?_
  · simp only [List.forall_mem_cons]
    exact ⟨fun _ _ _ _ _ h => h, fun _ _ _ _ _ h => h, fun _ _ _ _ _ h => h, fun _ _ _ _ hu h => XV.up h hu, fun _ _ _ _ _ h => h, fun _ _ _ _ _ h => h, fun _ _ _ _ _ h => h, fun _ _ _ _ _ h => h, fun _ _ _ _ _ h => h, fun _ _ _ _ _ h => h, fun _ _ _ _ _ h => h, fun _ _ _ _ _ h => h, fun _ _ _ _ _ h => h, fun _ _ _ _ _ h => h, fun _ _ _ _ _ h => h, fun _ _ _ _ _ h => h, fun _ _ _ _ hu h => XV.up h hu, by simp⟩
  · refine ⟨?_, ?_, ?_, ?_, ?_, ?_, ?_, ?_, ?_, ?_, ?_, ?_, ?_, ?_, ?_, ?_, ?_, trivial⟩
    · intro ρ w1 hw h0 hc hg hf hd
      have s1 : ρ (.tmp 1) = .slice (some ⟨gx, 0, none⟩) ls.length cx := h0 1 (by kernel_rfl)
      refine ⟨fun _ => ?_, fun h => by cases h⟩
      clear h0 hg hd
      exact gives_move rfl ⟨Chg.refl _ _, s1⟩
    · intro ρ w1 hw h0 hc hg hf hd
      have s5 : ρ (.tmp 5) = .pointer (some ⟨w.heap.size, 0, none⟩) := h0 5 (by kernel_rfl)
      refine ⟨fun _ => ?_, fun h => by cases h⟩
      clear h0 hg hd
      clear hf
      refine Gives.value (w' := w1) ?_ ⟨Chg.refl _ _, rfl⟩
      go_simp
    · intro ρ w1 hw h0 hc hg hf hd
      have d1 := hd ⟨1, .data⟩ (by simp) rfl _ _ _ rfl rfl rfl
      refine ⟨fun _ => ?_, fun h => by cases h⟩
      clear h0 hg hd
      clear hc hf
      have l0 := hw.cell O1.out (fun h => h)
      refine Gives.value (w' := w1) ?_ ⟨Chg.refl _ _, rfl⟩
      go_simp
    · intro ρ w1 hw h0 hc hg hf hd
      have d0 := hd ⟨0, .data⟩ (by simp) rfl _ _ _ rfl rfl rfl
      have d2 := hd ⟨2, .data⟩ (by simp) rfl _ _ _ rfl rfl rfl
      refine ⟨fun _ => ?_, fun h => by cases h⟩
      clear h0 hg hd
      refine gives_call rfl hf Try.func27 rfl (by kernel_rfl) (args := #[.slice (some ⟨gx, 0, none⟩) ls.length cx, .int .i64 (k : Int)]) (by simp [d0, d2]) ((without_any w1 0 _ ls (own_chg HX9.out hw (fun _ _ h => h)) k hk (by omega)).mono ?_)
      rintro e w2 ⟨B, c5, rfl, hx5, hb5⟩
      exact ⟨_, rfl, up_below hb5, B, c5, rfl, own_base hx5 (Nat.le_trans HSZ.out hw.size)⟩
    · intro ρ w1 hw h0 hc hg hf hd
      have s15 : ρ (.tmp 15) = .int .i64 0 := h0 15 (by kernel_rfl)
      refine ⟨fun _ => ?_, fun h => by cases h⟩
      clear h0 hg hd
      exact gives_move rfl ⟨Chg.refl _ _, s15⟩
    · intro ρ w1 hw h0 hc hg hf hd
      have d4 := hd ⟨4, .data⟩ (by simp) rfl _ _ _ rfl rfl rfl
      refine ⟨fun _ => ?_, fun h => by cases h⟩
      clear h0 hg hd
      clear hf
      refine Gives.value (w' := w1) ?_ ⟨Chg.refl _ _, rfl⟩
      go_simp
    · intro ρ w1 hw h0 hc hg hf hd
      have d5 := hd ⟨5, .data⟩ (by simp) rfl _ _ _ rfl rfl rfl
      refine ⟨fun _ => ?_, fun h => by cases h⟩
      clear h0 hg hd
      exact gives_move rfl ⟨Chg.refl _ _, d5⟩
    · intro ρ w1 hw h0 hc hg hf hd
      have d6 := hd ⟨6, .guard⟩ (by simp) rfl _ _ _ rfl rfl rfl
      have s14 : ρ (.tmp 14) = .pointer (some ⟨g14, 0, none⟩) := h0 14 (by kernel_rfl)
      refine ⟨fun _ => ?_, fun h => by rw [wantedBy_true rfl rfl rfl d6] at h; cases h⟩
      clear d6
      clear h0 hg hd
      clear hc hf
      have l0 := hw.cell L0.out (fun h => h)
      have l1 := hw.cell L1.out (fun h => h)
      have l2 := hw.cell L2.out (fun h => h)
      refine Gives.value (w' := w1) ?_ ⟨Chg.refl _ _, rfl⟩
      go_simp
    · intro ρ w1 hw h0 hc hg hf hd
      have d7 := hd ⟨7, .data⟩ (by simp) rfl _ _ _ rfl rfl rfl
      have d6 := hd ⟨6, .chain⟩ (by simp) rfl _ _ _ rfl rfl rfl
      refine ⟨fun _ => ?_, fun h => by rw [wantedBy_true rfl rfl rfl d6] at h; cases h⟩
      clear d6
      clear h0 hg hd
      have hcl := ref_any w1 f' t' (.slice A' xs'.length c') xs' (Src.chg HD9.out hw (fun _ _ _ h => h) (by decide))
      unfold refV at hcl
      dsimp only at hcl
      rw [HST.out] at hcl
      refine gives_call rfl hf Try.func21 rfl (by kernel_rfl) (args := #[.agg #[.int .i64 f', .int .i64 t', .slice A' xs'.length c']]) (by simp [hc, d7]) (hcl.mono ?_)
      rintro e w2 ⟨rfl, hb⟩
      exact ⟨_, rfl, up_below hb, rfl⟩
    · intro ρ w1 hw h0 hc hg hf hd
      have d6 := hd ⟨6, .guard⟩ (by simp) rfl _ _ _ rfl rfl rfl
      have s1 : ρ (.tmp 1) = .slice (some ⟨gx, 0, none⟩) ls.length cx := h0 1 (by kernel_rfl)
      refine ⟨fun _ => ?_, fun h => by rw [wantedBy_true rfl rfl rfl d6] at h; cases h⟩
      clear d6
      clear h0 hg hd
      exact gives_move rfl ⟨Chg.refl _ _, s1⟩
    · intro ρ w1 hw h0 hc hg hf hd
      have d6 := hd ⟨6, .guard⟩ (by simp) rfl _ _ _ rfl rfl rfl
      have s5 : ρ (.tmp 5) = .pointer (some ⟨w.heap.size, 0, none⟩) := h0 5 (by kernel_rfl)
      refine ⟨fun _ => ?_, fun h => by rw [wantedBy_true rfl rfl rfl d6] at h; cases h⟩
      clear d6
      clear h0 hg hd
      clear hf
      refine Gives.value (w' := w1) ?_ ⟨Chg.refl _ _, rfl⟩
      go_simp
    · intro ρ w1 hw h0 hc hg hf hd
      have d10 := hd ⟨10, .data⟩ (by simp) rfl _ _ _ rfl rfl rfl
      have d6 := hd ⟨6, .guard⟩ (by simp) rfl _ _ _ rfl rfl rfl
      refine ⟨fun _ => ?_, fun h => by rw [wantedBy_true rfl rfl rfl d6] at h; cases h⟩
      clear d6
      clear h0 hg hd
      clear hc hf
      have l0 := hw.cell O1.out (fun h => h)
      refine Gives.value (w' := w1) ?_ ⟨Chg.refl _ _, rfl⟩
      go_simp
    · intro ρ w1 hw h0 hc hg hf hd
      have d9 := hd ⟨9, .data⟩ (by simp) rfl _ _ _ rfl rfl rfl
      have d11 := hd ⟨11, .data⟩ (by simp) rfl _ _ _ rfl rfl rfl
      have d6 := hd ⟨6, .guard⟩ (by simp) rfl _ _ _ rfl rfl rfl
      refine ⟨fun _ => ?_, fun h => by rw [wantedBy_true rfl rfl rfl d6] at h; cases h⟩
      clear d6
      clear h0 hg hd
      clear hf
      refine Gives.value (w' := w1) ?_ ⟨Chg.refl _ _, rfl⟩
      go_simp
    · intro ρ w1 hw h0 hc hg hf hd
      have d12 := hd ⟨12, .data⟩ (by simp) rfl _ _ _ rfl rfl rfl
      have d6 := hd ⟨6, .guard⟩ (by simp) rfl _ _ _ rfl rfl rfl
      refine ⟨fun _ => ?_, fun h => by rw [wantedBy_true rfl rfl rfl d6] at h; cases h⟩
      clear d6
      clear h0 hg hd
      clear hc hf
      have l0 := hw.cell M0.out (fun h => h)
      have l1 := hw.cell M1.out (fun h => h)
      have l2 := hw.cell M2.out (fun h => h)
      refine Gives.value (w' := w1) ?_ ⟨Chg.refl _ _, rfl⟩
      go_simp
    · intro ρ w1 hw h0 hc hg hf hd
      have d8 := hd ⟨8, .data⟩ (by simp) rfl _ _ _ rfl rfl rfl
      have d13 := hd ⟨13, .data⟩ (by simp) rfl _ _ _ rfl rfl rfl
      have d6 := hd ⟨6, .guard⟩ (by simp) rfl _ _ _ rfl rfl rfl
      refine ⟨fun _ => ?_, fun h => by rw [wantedBy_true rfl rfl rfl d6] at h; cases h⟩
      clear d6
      clear h0 hg hd
      clear hf
      have q1 := eq49 f' t' st w1
      have q2 := guard49 .eql (.tmp 126) (.tmp 131) f' t' st w1
      refine Gives.value (v := .bool true) (w' := w1) ?_ ⟨Chg.refl _ _, rfl⟩
      unfold execOp
      simp [d8, d13, q1, q2]
    · intro ρ w1 hw h0 hc hg hf hd
      have d6 := hd ⟨6, .data⟩ (by simp) rfl _ _ _ rfl rfl rfl
      have d14 := hd ⟨14, .data⟩ (by simp) rfl _ _ _ rfl rfl rfl
      refine ⟨fun _ => ?_, fun h => by cases h⟩
      clear h0 hg hd
      clear hf
      refine Gives.value (w' := w1) ?_ ⟨Chg.refl _ _, rfl⟩
      go_simp
    · intro ρ w1 hw h0 hc hg hf hd
      have d3 := hd ⟨3, .data⟩ (by simp) rfl _ _ _ rfl rfl rfl
      refine ⟨fun _ => ?_, fun h => by cases h⟩
      clear h0 hg hd
      exact gives_assign rfl ⟨Chg.refl _ _, d3⟩
  · intro vs w9 hw hr
    have h15 := hr 15 _ rfl
    have h16 := hr 16 _ rfl
    clear hr
    dsimp only [putsL, restL]
    simp only [Act.put, List.setIfInBounds_toArray, List.set_cons_zero, List.set_cons_succ]
    obtain ⟨B5, c5, e16, hx5⟩ : ∃ B c, vs 16 = .slice B (ls.eraseIdx k).length c ∧ XAt w9 w.heap.size (.slice B (ls.eraseIdx k).length c) (ls.eraseIdx k) := h16
    rw [h15, e16]
    have HX5 := Lib.hid hx5
    have HUW := Lib.hid (HU9.out.trans hw)
    clear hw h15 e16 hx5
    go_wp2_with fail
    go_ret2
    have e1 : stepI ls 2 (k : Int) f t xs = ls.eraseIdx k := by unfold stepI; simp [HAT.out]
    rw [e1]
    exact ⟨B5, c5, lv1, _, rfl, own_base HX5.out (Nat.zero_le _), HN1.out.up HUW.out, (HCW.out.then HUW.out (fun i hi => hi.elim)).mono (fun i _ hi => hi.imp id .inl), fun g hg => .inl (HL1.out ▸ hg), fun g hg => .inr (own_ge HX5.out g hg)⟩
set_option maxRecDepth 100000 in
set_option maxHeartbeats 4000000 in
theorem step2c (w : World) (p : Nat) (lv : Value) (ds : List Value) (ls : List Let) (sent : Int) (h : NetAt w p lv ds ls sent) (hn : ls.length < 1024) (hx : ∀ j, j < ls.length → (ls.getD j default).2.2.length ≤ 1000000) (xv : Value) (hX : XAt w 0 xv ls) (a f t : Int) (d : Value) (xs : List Int) (hd : SlB w d xs) (hnx : xs.length ≤ 1000) (ha0 : 0 ≤ a) (ha : ¬ a < (ls.length : Int)) :
    Calls Try.prog 15 #[.pointer (some ⟨p, 0, none⟩), xv, .agg #[.int .i64 2, .int .i64 a, .int .i64 f, .int .i64 t, d]] w (StepPost p lv xv (stepI ls 2 a f t xs) (sent + stepS 2 f t) w) := by
  obtain ⟨Ax, cx, rfl⟩ := own_shape hX
  obtain ⟨A, c, rfl, hl1, hl2⟩ := hd.shape
  rw [stepS_not (show (2 : Int) ≠ 1 by decide), Int.add_zero]
  have hat := atI_far (ls := ls) ha
  rw [stepI_not (show (2 : Int) ≠ 1 by decide) hat]
  obtain ⟨W7, hW7⟩ : ∃ W, W = w.alloc (.cells #[.int .i64 2, .int .i64 a, .int .i64 f, .int .i64 t, .slice A xs.length c] 36) := ⟨_, rfl⟩
  have hu7 : Up w W7 := by rw [hW7]; exact (Chg.refl _ w).alloc _
  have ho7 : W7.heap[w.heap.size]? = some (.cells #[.int .i64 2, .int .i64 a, .int .i64 f, .int .i64 t, .slice A xs.length c] 36 (0, 0)) := by rw [hW7]; exact heap_alloc_last w _
  have HC := Lib.hid (take_any W7 p lv ds ls sent a (h.up hu7) (by omega))
  have HN := Lib.hid h
  have HX := Lib.hid hX
  have HD := Lib.hid hd
  have HU7 := Lib.hid hu7
  have HO7 := Lib.hid ho7
  have HW7 := Lib.hid hW7
  have HAT := Lib.hid hat
  have HXL := Lib.hid hx
  clear h hX hd hu7 ho7 hW7 hat hx
  go_enter Try.func15, Try.ntmps15
  go_wp2_with fail
  rw [← HW7.out]
  refine HC.out.mono ?_
  intro e W8 hdp
  rcases hdp with ⟨_, rfl, hu8⟩ | ⟨hat, _⟩
  · have HU8 := Lib.hid (HU7.out.trans hu8)
    clear hu8 HC
    go_wp2_with fail
    obtain ⟨W9, hW9⟩ : ∃ W, W = W8.alloc (.cells #[.int .i64 0, .int .i64 0, .slice none 0 0] 29) := ⟨_, rfl⟩
    obtain ⟨g14, hg14⟩ : ∃ g, g = W8.heap.size := ⟨_, rfl⟩
    rw [← hW9, ← hg14]
    have hl9 : W9.heap[g14]? = some (.cells #[.int .i64 0, .int .i64 0, .slice none 0 0] 29 (0, 0)) := by rw [hW9, hg14]; exact heap_alloc_last _ _
    have hu9 : Up w W9 := by rw [hW9]; exact HU8.out.alloc _
    have L2 : Hid (W9.drew.cell? ⟨g14, 2, none⟩ = some (.slice none 0 0)) := Lib.hid (cell_of_row W9 g14 2 _ _ _ hl9)
    have HU9 := Lib.hid hu9
    clear hl9 hu9 hW9 hg14
    refine MT.region_mono Up [fun v _ => v = .slice Ax ls.length cx,
        fun v _ => v = .int .i64 11,
        fun v _ => v = .int .i64 11,
        fun v _ => v = .bool true,
        fun v _ => v = .bool true,
        fun v _ => v = .pointer (some ⟨g14, 2, none⟩),
        fun v _ => v = .slice none 0 0,
        fun v _ => v = .int .i64 0,
        fun v _ => v = .bool true,
        fun v _ => v = .bool true,
        fun v _ => v = .slice Ax ls.length cx] (by kernel_rfl) (by kernel_rfl) (Chg.refl _) (fun _ _ _ => Chg.trans) (by simp) ?_ ?_ ?_
    · simp only [List.forall_mem_cons]
      exact ⟨fun _ _ _ _ _ h => h, fun _ _ _ _ _ h => h, fun _ _ _ _ _ h => h, fun _ _ _ _ _ h => h, fun _ _ _ _ _ h => h, fun _ _ _ _ _ h => h, fun _ _ _ _ _ h => h, fun _ _ _ _ _ h => h, fun _ _ _ _ _ h => h, fun _ _ _ _ _ h => h, fun _ _ _ _ _ h => h, by simp⟩
    · refine ⟨?_, ?_, ?_, ?_, ?_, ?_, ?_, ?_, ?_, ?_, ?_, trivial⟩
      · intro ρ w1 hw h0 hc hg hf hd
        have s1 : ρ (.tmp 1) = .slice Ax ls.length cx := h0 1 (by kernel_rfl)
        refine ⟨fun _ => ?_, fun h => by cases h⟩
        clear h0 hg hd
        exact gives_move rfl ⟨Chg.refl _ _, s1⟩
      · intro ρ w1 hw h0 hc hg hf hd
        have s15 : ρ (.tmp 15) = .int .i64 11 := h0 15 (by kernel_rfl)
        refine ⟨fun _ => ?_, fun h => by cases h⟩
        clear h0 hg hd
        exact gives_move rfl ⟨Chg.refl _ _, s15⟩
      · intro ρ w1 hw h0 hc hg hf hd
        have s9 : ρ (.tmp 9) = .int .i64 11 := h0 9 (by kernel_rfl)
        refine ⟨fun _ => ?_, fun h => by cases h⟩
        clear h0 hg hd
        exact gives_move rfl ⟨Chg.refl _ _, s9⟩
      · intro ρ w1 hw h0 hc hg hf hd
        have d1 := hd ⟨1, .data⟩ (by simp) rfl _ _ _ rfl rfl rfl
        have d2 := hd ⟨2, .data⟩ (by simp) rfl _ _ _ rfl rfl rfl
        refine ⟨fun _ => ?_, fun h => by cases h⟩
        clear h0 hg hd
        clear hf
        refine Gives.value (w' := w1) ?_ ⟨Chg.refl _ _, rfl⟩
        go_simp
      · intro ρ w1 hw h0 hc hg hf hd
        have d3 := hd ⟨3, .data⟩ (by simp) rfl _ _ _ rfl rfl rfl
        refine ⟨fun _ => ?_, fun h => by cases h⟩
        clear h0 hg hd
        exact gives_move rfl ⟨Chg.refl _ _, d3⟩
      · intro ρ w1 hw h0 hc hg hf hd
        have d4 := hd ⟨4, .guard⟩ (by simp) rfl _ _ _ rfl rfl rfl
        have s14 : ρ (.tmp 14) = .pointer (some ⟨g14, 0, none⟩) := h0 14 (by kernel_rfl)
        refine ⟨fun _ => ?_, fun h => by rw [wantedBy_true rfl rfl rfl d4] at h; cases h⟩
        clear d4
        clear h0 hg hd
        clear hf
        refine Gives.value (w' := w1) ?_ ⟨Chg.refl _ _, rfl⟩
        go_simp
      · intro ρ w1 hw h0 hc hg hf hd
        have d5 := hd ⟨5, .data⟩ (by simp) rfl _ _ _ rfl rfl rfl
        have d4 := hd ⟨4, .guard⟩ (by simp) rfl _ _ _ rfl rfl rfl
        refine ⟨fun _ => ?_, fun h => by rw [wantedBy_true rfl rfl rfl d4] at h; cases h⟩
        clear d4
        clear h0 hg hd
        clear hc hf
        have l0 := hw.cell L2.out (fun h => h)
        refine Gives.value (w' := w1) ?_ ⟨Chg.refl _ _, rfl⟩
        go_simp
      · intro ρ w1 hw h0 hc hg hf hd
        have d6 := hd ⟨6, .data⟩ (by simp) rfl _ _ _ rfl rfl rfl
        have d4 := hd ⟨4, .guard⟩ (by simp) rfl _ _ _ rfl rfl rfl
        refine ⟨fun _ => ?_, fun h => by rw [wantedBy_true rfl rfl rfl d4] at h; cases h⟩
        clear d4
        clear h0 hg hd
        clear hf
        refine Gives.value (w' := w1) ?_ ⟨Chg.refl _ _, rfl⟩
        go_simp
      · intro ρ w1 hw h0 hc hg hf hd
        have d7 := hd ⟨7, .data⟩ (by simp) rfl _ _ _ rfl rfl rfl
        have d4 := hd ⟨4, .guard⟩ (by simp) rfl _ _ _ rfl rfl rfl
        refine ⟨fun _ => ?_, fun h => by rw [wantedBy_true rfl rfl rfl d4] at h; cases h⟩
        clear d4
        clear h0 hg hd
        clear hf
        refine Gives.value (w' := w1) ?_ ⟨Chg.refl _ _, rfl⟩
        go_simp
      · intro ρ w1 hw h0 hc hg hf hd
        have d4 := hd ⟨4, .data⟩ (by simp) rfl _ _ _ rfl rfl rfl
        have d8 := hd ⟨8, .data⟩ (by simp) rfl _ _ _ rfl rfl rfl
        refine ⟨fun _ => ?_, fun h => by cases h⟩
        clear h0 hg hd
        clear hf
        refine Gives.value (w' := w1) ?_ ⟨Chg.refl _ _, rfl⟩
        go_simp
      · intro ρ w1 hw h0 hc hg hf hd
        have d0 := hd ⟨0, .data⟩ (by simp) rfl _ _ _ rfl rfl rfl
        refine ⟨fun _ => ?_, fun h => by cases h⟩
        clear h0 hg hd
        exact gives_assign rfl ⟨Chg.refl _ _, d0⟩
    · intro vs w9 hw hr
      have h9 := hr 9 _ rfl
      have h10 := hr 10 _ rfl
      clear hr
      dsimp only [putsL, restL]
      simp only [Act.put, List.setIfInBounds_toArray, List.set_cons_zero, List.set_cons_succ]
      rw [h9, h10]
      have HU8 := Lib.hid ((HU9.out.trans (Chg.refl _ _).drew).trans hw)
      clear hw h9 h10
      go_wp2_with fail
      go_ret2
      exact ⟨Ax, cx, lv, ds, rfl, own_chg HX.out HU8.out (fun _ _ h => h), HN.out.up HU8.out, HU8.out.mono (fun _ _ h => h.elim), fun _ h => .inl h, fun _ h => .inl h⟩
  · rw [HAT.out] at hat
    cases hat
theorem step_any (w : World) (p : Nat) (lv : Value) (ds : List Value) (ls : List Let) (sent : Int) (h : NetAt w p lv ds ls sent) (hn : ls.length < 1024) (hx : ∀ j, j < ls.length → (ls.getD j default).2.2.length ≤ 1000000) (xv : Value) (hX : XAt w 0 xv ls) (kd a f t : Int) (d : Value) (xs : List Int) (hd : SlB w d xs) (hnx : xs.length ≤ 1000) (hs0 : 0 ≤ sent) (hs1 : sent ≤ 1000000) (hdl : ∀ b, Value.blk d = some b → 0 < xs.length → b ≠ p ∧ lv.ownBlock ≠ some b) :
    Calls Try.prog 15 #[.pointer (some ⟨p, 0, none⟩), xv, .agg #[.int .i64 kd, .int .i64 a, .int .i64 f, .int .i64 t, d]] w (StepPost p lv xv (stepI ls kd a f t xs) (sent + stepS kd f t) w) := by
  by_cases h1 : kd = 1
  · subst h1
    exact step1_any w p lv ds ls sent h hs0 hs1 hn xv hX a f t d xs hd hnx
  by_cases h2 : kd = 2
  · subst h2
    by_cases ha : a < 0
    · exact step2a w p lv ds ls sent h hn hx xv hX a f t d xs hd hnx ha
    · by_cases hb : a < ls.length
      · exact step2b w p lv ds ls sent h hn hx xv hX a f t d xs hd hnx (by omega) hb
      · exact step2c w p lv ds ls sent h hn hx xv hX a f t d xs hd hnx (by omega) hb
  by_cases h3 : kd = 3
  · subst h3
    by_cases ha : a < 0
    · exact step3a w p lv ds ls sent h hn hx xv hX a f t d xs hd hnx ha
    · by_cases hb : a < ls.length
      · exact step3b w p lv ds ls sent h hn hx xv hX a f t d xs hd hnx (by omega) hb
      · exact step3c w p lv ds ls sent h hn hx xv hX a f t d xs hd hnx (by omega) hb
  by_cases h4 : kd = 4
  · subst h4
    by_cases ha : a < 0
    · exact step4a w p lv ds ls sent h hn hx xv hX a f t d xs hd hnx ha
    · by_cases hb : a < ls.length
      · exact step4b w p lv ds ls sent h hn hx xv hX a f t d xs hd hnx (by omega) hb
      · exact step4c w p lv ds ls sent h hn hx xv hX a f t d xs hd hnx (by omega) hb
  by_cases h5 : kd = 5
  · subst h5
    by_cases ha : a < 0
    · exact step5a w p lv ds ls sent h hn hx xv hX a f t d xs hd hnx ha
    · by_cases hb : a < ls.length
      · exact step5b w p lv ds ls sent h hn hx xv hX a f t d xs hd hnx (by omega) hb hdl
      · exact step5c w p lv ds ls sent h hn hx xv hX a f t d xs hd hnx (by omega) hb
  · by_cases ha : a < 0
    · exact stepXa w p lv ds ls sent h hn hx xv hX a f t d xs hd hnx ha kd h1 h2 h3 h4 h5
    · by_cases hb : a < ls.length
      · exact stepXb w p lv ds ls sent h hn hx xv hX a f t d xs hd hnx (by omega) hb kd h1 h2 h3 h4 h5
      · exact stepXc w p lv ds ls sent h hn hx xv hX a f t d xs hd hnx (by omega) hb kd h1 h2 h3 h4 h5
end Go.Proofs.Ytofmblkmfbioiaa
