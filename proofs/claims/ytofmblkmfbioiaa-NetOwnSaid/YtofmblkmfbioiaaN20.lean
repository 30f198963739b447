/-
  step, walked: a letter is lost; one more of it.
-/
import Derived.Test.YtofmblkmfbioiaaN19
namespace Go.Proofs.Ytofmblkmfbioiaa
open Go.RowKit
theorem atI_neg {ls : List Let} {a : Int} (h : a < 0) : atI ls a = false := by unfold atI; simp; omega
theorem atI_far {ls : List Let} {a : Int} (h : ¬ a < (ls.length : Int)) : atI ls a = false := by unfold atI; simp; omega
theorem atI_in {ls : List Let} {a : Int} (h0 : 0 ≤ a) (h : a < (ls.length : Int)) : atI ls a = true := by unfold atI; simp; omega
theorem stepI_not {ls : List Let} {k a f t : Int} {xs : List Int} (hk : k ≠ 1) (h : atI ls a = false) : stepI ls k a f t xs = ls := by
  unfold stepI
  rw [if_neg hk, h]
  simp
theorem stepS_not {k f t : Int} (hk : k ≠ 1) : stepS k f t = 0 := by unfold stepS; rw [if_neg hk]
set_option maxRecDepth 100000 in
set_option maxHeartbeats 4000000 in
theorem step3a (w : World) (p : Nat) (lv : Value) (ds : List Value) (ls : List Let) (sent : Int) (h : NetAt w p lv ds ls sent) (hn : ls.length < 1024) (hx : ∀ j, j < ls.length → (ls.getD j default).2.2.length ≤ 1000000) (xv : Value) (hX : XAt w 0 xv ls) (a f t : Int) (d : Value) (xs : List Int) (hd : SlB w d xs) (hnx : xs.length ≤ 1000) (ha : a < 0) :
    Calls Try.prog 15 #[.pointer (some ⟨p, 0, none⟩), xv, .agg #[.int .i64 3, .int .i64 a, .int .i64 f, .int .i64 t, d]] w (StepPost p lv xv (stepI ls 3 a f t xs) (sent + stepS 3 f t) w) := by
  obtain ⟨Ax, cx, rfl⟩ := own_shape hX
  obtain ⟨A, c, rfl, hl1, hl2⟩ := hd.shape
  rw [stepS_not (show (3 : Int) ≠ 1 by decide), Int.add_zero]
  have hat := atI_neg (ls := ls) ha
  rw [stepI_not (show (3 : Int) ≠ 1 by decide) hat]
  obtain ⟨W7, hW7⟩ : ∃ W, W = w.alloc (.cells #[.int .i64 3, .int .i64 a, .int .i64 f, .int .i64 t, .slice A xs.length c] 36) := ⟨_, rfl⟩
  have hu7 : Up w W7 := by rw [hW7]; exact (Chg.refl _ w).alloc _
  have ho7 : W7.heap[w.heap.size]? = some (.cells #[.int .i64 3, .int .i64 a, .int .i64 f, .int .i64 t, .slice A xs.length c] 36 (0, 0)) := by rw [hW7]; exact heap_alloc_last w _
  have HC := Lib.hid (drop_any W7 p lv ds ls sent a (h.up hu7) (by omega))
  have HN := Lib.hid h
  have HX := Lib.hid hX
  have HD := Lib.hid hd
  have HU7 := Lib.hid hu7
  have HO7 := Lib.hid ho7
  have HW7 := Lib.hid hW7
  have HAT := Lib.hid hat
  have HXL := Lib.hid hx
  clear h hX hd hu7 ho7 hW7 hat hx
  go_enter Try.func15, Try.ntmps15
  go_wp2_with fail
  rw [← HW7.out]
  refine HC.out.mono ?_
  intro e W8 hdp
  rcases hdp with ⟨_, rfl, hu8⟩ | ⟨hat, _⟩
  · have HU8 := Lib.hid (HU7.out.trans hu8)
    clear hu8 HC
    go_wp2_with fail
    go_ret2
    exact ⟨Ax, cx, lv, ds, rfl, own_chg HX.out HU8.out (fun _ _ h => h), HN.out.up HU8.out, HU8.out.mono (fun _ _ h => h.elim), fun _ h => .inl h, fun _ h => .inl h⟩
  · rw [HAT.out] at hat
    cases hat
set_option maxRecDepth 100000 in
set_option maxHeartbeats 4000000 in
theorem step3b (w : World) (p : Nat) (lv : Value) (ds : List Value) (ls : List Let) (sent : Int) (h : NetAt w p lv ds ls sent) (hn : ls.length < 1024) (hx : ∀ j, j < ls.length → (ls.getD j default).2.2.length ≤ 1000000) (xv : Value) (hX : XAt w 0 xv ls) (a f t : Int) (d : Value) (xs : List Int) (hd : SlB w d xs) (hnx : xs.length ≤ 1000) (ha : 0 ≤ a) (ha2 : a < ls.length) :
    Calls Try.prog 15 #[.pointer (some ⟨p, 0, none⟩), xv, .agg #[.int .i64 3, .int .i64 a, .int .i64 f, .int .i64 t, d]] w (StepPost p lv xv (stepI ls 3 a f t xs) (sent + stepS 3 f t) w) := by
  obtain ⟨Ax, cx, rfl⟩ := own_shape hX
  obtain ⟨A, c, rfl, hl1, hl2⟩ := hd.shape
  rw [stepS_not (show (3 : Int) ≠ 1 by decide), Int.add_zero]
  have hat := atI_in ha ha2
  obtain ⟨W7, hW7⟩ : ∃ W, W = w.alloc (.cells #[.int .i64 3, .int .i64 a, .int .i64 f, .int .i64 t, .slice A xs.length c] 36) := ⟨_, rfl⟩
  have hu7 : Up w W7 := by rw [hW7]; exact (Chg.refl _ w).alloc _
  have ho7 : W7.heap[w.heap.size]? = some (.cells #[.int .i64 3, .int .i64 a, .int .i64 f, .int .i64 t, .slice A xs.length c] 36 (0, 0)) := by rw [hW7]; exact heap_alloc_last w _
  have HC := Lib.hid (drop_any W7 p lv ds ls sent a (h.up hu7) (by omega))
  have HN := Lib.hid h
  have HX := Lib.hid hX
  have HD := Lib.hid hd
  have HU7 := Lib.hid hu7
  have HO7 := Lib.hid ho7
  have HW7 := Lib.hid hW7
  have HAT := Lib.hid hat
  have HXL := Lib.hid hx
  clear h hX hd hu7 ho7 hW7 hat hx
  go_enter Try.func15, Try.ntmps15
  go_wp2_with fail
  rw [← HW7.out]
  refine HC.out.mono ?_
  intro e W8 hdp
  rcases hdp with ⟨hat, _⟩ | ⟨_, rfl, lv1, hn1, hl1, hc1⟩
  · rw [HAT.out] at hat
    cases hat
  have hlt : w.heap.size < W7.heap.size := (Array.getElem?_eq_some_iff.1 HO7.out).1
  have hout : ¬ (w.heap.size = p ∨ lv.ownBlock = some w.heap.size) := fun hs => by
    rcases hs with hs | hs
    · have := (Array.getElem?_eq_some_iff.1 HN.out.obj).1; omega
    · have := own_lt HN.out.row _ hs; omega
  have ho8 := hc1.heap HO7.out hout
  have o1 := cell_of_row W8 w.heap.size 1 _ _ _ ho8
  have hcw : Chg (fun i => i = p ∨ lv.ownBlock = some i) w W8 := (HU7.out.mono (fun _ _ h => h.elim)).then hc1 (fun i hi => .inl hi)
  have hx8 := HX.out.net HN.out hcw
  obtain ⟨k, rfl, hk⟩ := atI_nat HAT.out
  rw [Int.toNat_natCast] at hn1
  have HWO := Lib.hid (without_any W8 0 _ ls hx8 k hk (by omega))
  have HN1 := Lib.hid hn1
  have HL1 := Lib.hid hl1
  have HCW := Lib.hid hcw
  clear hn1 hl1 hc1 hlt hout ho8 hcw hx8
  go_wp2_with fail
  refine HWO.out.mono ?_
  rintro e W9 ⟨B9, c9, rfl, hx9, hb9⟩
  have HU9 := Lib.hid (up_below hb9)
  have HX9 := Lib.hid hx9
  clear hx9 hb9 o1
  go_wp2_with fail
  go_ret2
  have e1 : stepI ls 3 (k : Int) f t xs = ls.eraseIdx k := by unfold stepI; simp [HAT.out]
  rw [e1]
  exact ⟨B9, c9, lv1, _, rfl, own_base HX9.out (Nat.zero_le _), HN1.out.up HU9.out, (HCW.out.then HU9.out (fun i hi => hi.elim)).mono (fun i _ hi => hi.imp id .inl), fun g hg => .inl (HL1.out ▸ hg), fun g hg => .inr (Nat.le_trans HCW.out.size (own_ge HX9.out g hg))⟩
set_option maxRecDepth 100000 in
set_option maxHeartbeats 4000000 in
theorem step3c (w : World) (p : Nat) (lv : Value) (ds : List Value) (ls : List Let) (sent : Int) (h : NetAt w p lv ds ls sent) (hn : ls.length < 1024) (hx : ∀ j, j < ls.length → (ls.getD j default).2.2.length ≤ 1000000) (xv : Value) (hX : XAt w 0 xv ls) (a f t : Int) (d : Value) (xs : List Int) (hd : SlB w d xs) (hnx : xs.length ≤ 1000) (ha0 : 0 ≤ a) (ha : ¬ a < (ls.length : Int)) :
    Calls Try.prog 15 #[.pointer (some ⟨p, 0, none⟩), xv, .agg #[.int .i64 3, .int .i64 a, .int .i64 f, .int .i64 t, d]] w (StepPost p lv xv (stepI ls 3 a f t xs) (sent + stepS 3 f t) w) := by
  obtain ⟨Ax, cx, rfl⟩ := own_shape hX
  obtain ⟨A, c, rfl, hl1, hl2⟩ := hd.shape
  rw [stepS_not (show (3 : Int) ≠ 1 by decide), Int.add_zero]
  have hat := atI_far (ls := ls) ha
  rw [stepI_not (show (3 : Int) ≠ 1 by decide) hat]
  obtain ⟨W7, hW7⟩ : ∃ W, W = w.alloc (.cells #[.int .i64 3, .int .i64 a, .int .i64 f, .int .i64 t, .slice A xs.length c] 36) := ⟨_, rfl⟩
  have hu7 : Up w W7 := by rw [hW7]; exact (Chg.refl _ w).alloc _
  have ho7 : W7.heap[w.heap.size]? = some (.cells #[.int .i64 3, .int .i64 a, .int .i64 f, .int .i64 t, .slice A xs.length c] 36 (0, 0)) := by rw [hW7]; exact heap_alloc_last w _
  have HC := Lib.hid (drop_any W7 p lv ds ls sent a (h.up hu7) (by omega))
  have HN := Lib.hid h
  have HX := Lib.hid hX
  have HD := Lib.hid hd
  have HU7 := Lib.hid hu7
  have HO7 := Lib.hid ho7
  have HW7 := Lib.hid hW7
  have HAT := Lib.hid hat
  have HXL := Lib.hid hx
  clear h hX hd hu7 ho7 hW7 hat hx
  go_enter Try.func15, Try.ntmps15
  go_wp2_with fail
  rw [← HW7.out]
  refine HC.out.mono ?_
  intro e W8 hdp
  rcases hdp with ⟨_, rfl, hu8⟩ | ⟨hat, _⟩
  · have HU8 := Lib.hid (HU7.out.trans hu8)
    clear hu8 HC
    go_wp2_with fail
    go_ret2
    exact ⟨Ax, cx, lv, ds, rfl, own_chg HX.out HU8.out (fun _ _ h => h), HN.out.up HU8.out, HU8.out.mono (fun _ _ h => h.elim), fun _ h => .inl h, fun _ h => .inl h⟩
  · rw [HAT.out] at hat
    cases hat
end Go.Proofs.Ytofmblkmfbioiaa
