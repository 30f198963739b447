/-
  step, walked: one more of a letter; a letter says something else; what is no call.
-/
import Derived.Test.YtofmblkmfbioiaaN20
namespace Go.Proofs.Ytofmblkmfbioiaa
open Go.RowKit
theorem twice_not {ls : List Let} {a : Int} (h : atI ls a = false) : twiceI ls a = 11 := by unfold twiceI; rw [h]; rfl
theorem twice_in {ls : List Let} {a : Int} (h : atI ls a = true) (hn : ls.length < 1024) : twiceI ls a = 0 := by unfold twiceI; rw [if_pos h, if_pos hn]
set_option maxRecDepth 100000 in
set_option maxHeartbeats 4000000 in
theorem step4a (w : World) (p : Nat) (lv : Value) (ds : List Value) (ls : List Let) (sent : Int) (h : NetAt w p lv ds ls sent) (hn : ls.length < 1024) (hx : ∀ j, j < ls.length → (ls.getD j default).2.2.length ≤ 1000000) (xv : Value) (hX : XAt w 0 xv ls) (a f t : Int) (d : Value) (xs : List Int) (hd : SlB w d xs) (hnx : xs.length ≤ 1000) (ha : a < 0) :
    Calls Try.prog 15 #[.pointer (some ⟨p, 0, none⟩), xv, .agg #[.int .i64 4, .int .i64 a, .int .i64 f, .int .i64 t, d]] w (StepPost p lv xv (stepI ls 4 a f t xs) (sent + stepS 4 f t) w) := by
  obtain ⟨Ax, cx, rfl⟩ := own_shape hX
  obtain ⟨A, c, rfl, hl1, hl2⟩ := hd.shape
  rw [stepS_not (show (4 : Int) ≠ 1 by decide), Int.add_zero]
  have hat := atI_neg (ls := ls) ha
  rw [stepI_not (show (4 : Int) ≠ 1 by decide) hat]
  obtain ⟨W7, hW7⟩ : ∃ W, W = w.alloc (.cells #[.int .i64 4, .int .i64 a, .int .i64 f, .int .i64 t, .slice A xs.length c] 36) := ⟨_, rfl⟩
  have hu7 : Up w W7 := by rw [hW7]; exact (Chg.refl _ w).alloc _
  have ho7 : W7.heap[w.heap.size]? = some (.cells #[.int .i64 4, .int .i64 a, .int .i64 f, .int .i64 t, .slice A xs.length c] 36 (0, 0)) := by rw [hW7]; exact heap_alloc_last w _
  have hcl := twice_any W7 p lv ds ls sent a (h.up hu7) hx
  rw [twice_not hat] at hcl
  have HC := Lib.hid hcl
  clear hcl
  have HN := Lib.hid h
  have HX := Lib.hid hX
  have HD := Lib.hid hd
  have HU7 := Lib.hid hu7
  have HO7 := Lib.hid ho7
  have HW7 := Lib.hid hW7
  have HAT := Lib.hid hat
  have HXL := Lib.hid hx
  clear h hX hd hu7 ho7 hW7 hat hx
  go_enter Try.func15, Try.ntmps15
  go_wp2_with fail
  rw [← HW7.out]
  refine HC.out.mono ?_
  rintro e W8 ⟨rfl, hr⟩
  have HU8 := Lib.hid (HU7.out.trans (hr.resolve_right (fun h => absurd h.1 (by decide))).2)
  clear hr HC
  go_wp2_with fail
  go_ret2
  exact ⟨Ax, cx, lv, ds, rfl, own_chg HX.out HU8.out (fun _ _ h => h), HN.out.up HU8.out, HU8.out.mono (fun _ _ h => h.elim), fun _ h => .inl h, fun _ h => .inl h⟩
set_option maxRecDepth 100000 in
set_option maxHeartbeats 4000000 in
theorem step4b (w : World) (p : Nat) (lv : Value) (ds : List Value) (ls : List Let) (sent : Int) (h : NetAt w p lv ds ls sent) (hn : ls.length < 1024) (hx : ∀ j, j < ls.length → (ls.getD j default).2.2.length ≤ 1000000) (xv : Value) (hX : XAt w 0 xv ls) (a f t : Int) (d : Value) (xs : List Int) (hd : SlB w d xs) (hnx : xs.length ≤ 1000) (ha : 0 ≤ a) (ha2 : a < ls.length) :
    Calls Try.prog 15 #[.pointer (some ⟨p, 0, none⟩), xv, .agg #[.int .i64 4, .int .i64 a, .int .i64 f, .int .i64 t, d]] w (StepPost p lv xv (stepI ls 4 a f t xs) (sent + stepS 4 f t) w) := by
  obtain ⟨Ax, cx, rfl⟩ := own_shape hX
  obtain ⟨A, c, rfl, hl1, hl2⟩ := hd.shape
  rw [stepS_not (show (4 : Int) ≠ 1 by decide), Int.add_zero]
  have hat := atI_in ha ha2
  obtain ⟨W7, hW7⟩ : ∃ W, W = w.alloc (.cells #[.int .i64 4, .int .i64 a, .int .i64 f, .int .i64 t, .slice A xs.length c] 36) := ⟨_, rfl⟩
  have hu7 : Up w W7 := by rw [hW7]; exact (Chg.refl _ w).alloc _
  have ho7 : W7.heap[w.heap.size]? = some (.cells #[.int .i64 4, .int .i64 a, .int .i64 f, .int .i64 t, .slice A xs.length c] 36 (0, 0)) := by rw [hW7]; exact heap_alloc_last w _
  have hcl := twice_any W7 p lv ds ls sent a (h.up hu7) hx
  rw [twice_in hat hn] at hcl
  have HC := Lib.hid hcl
  clear hcl
  have HN := Lib.hid h
  have HX := Lib.hid hX
  have HD := Lib.hid hd
  have HU7 := Lib.hid hu7
  have HO7 := Lib.hid ho7
  have HW7 := Lib.hid hW7
  have HAT := Lib.hid hat
  have HXL := Lib.hid hx
  clear h hX hd hu7 ho7 hW7 hat hx
  go_enter Try.func15, Try.ntmps15
  go_wp2_with fail
  rw [← HW7.out]
  refine HC.out.mono ?_
  rintro e W8 ⟨rfl, hr⟩
  obtain ⟨_, lv1, d1, hn1, hc1, hb1⟩ := hr.resolve_left (fun h => h.1 rfl)
  have hlt : w.heap.size < W7.heap.size := (Array.getElem?_eq_some_iff.1 HO7.out).1
  have hout : ¬ (w.heap.size = p ∨ lv.ownBlock = some w.heap.size) := fun hs => by
    rcases hs with hs | hs
    · have := (Array.getElem?_eq_some_iff.1 HN.out.obj).1; omega
    · have := own_lt HN.out.row _ hs; omega
  have ho8 := hc1.heap HO7.out hout
  have o1 := cell_of_row W8 w.heap.size 1 _ _ _ ho8
  have hcw : Chg (fun i => i = p ∨ lv.ownBlock = some i) w W8 := (HU7.out.mono (fun _ _ h => h.elim)).then hc1 (fun i hi => .inl hi)
  have hx8 := HX.out.net HN.out hcw
  obtain ⟨k, rfl, hk⟩ := atI_nat HAT.out
  rw [Int.toNat_natCast] at hn1
  obtain ⟨gx, rfl⟩ : ∃ g, Ax = some ⟨g, 0, none⟩ := by
    rcases hx8.2 with ⟨h0, hz⟩ | ⟨g, cap, cur, he, _⟩
    · omega
    · injection he with e1; exact ⟨g, e1⟩
  obtain ⟨s0, s1, s2⟩ := hx8.cells k hk
  obtain ⟨y, hye⟩ : ∃ y, ls.getD k default = y := ⟨_, rfl⟩
  rw [hye] at s0 s1 s2 hn1
  obtain ⟨f', t', xs'⟩ := y
  dsimp only at s0 s1 s2
  obtain ⟨st, hst⟩ : ∃ s, strOfNums xs' = s := ⟨_, rfl⟩
  rw [hst] at s2
  have hlen : ((ls.length : Int) == 1024) = false := by rw [beq_eq_false_iff_ne]; omega
  obtain ⟨W9, hW9⟩ : ∃ W, W = W8.alloc (.cells #[.int .i64 f', .int .i64 t', .string st] 49) := ⟨_, rfl⟩
  have hu9 : Up W8 W9 := by rw [hW9]; exact (Chg.refl _ W8).alloc _
  have hx9 : XAt W9 0 (.slice (some ⟨gx, 0, none⟩) ls.length cx) ls := own_chg hx8 hu9 (fun _ _ h => h)
  obtain ⟨B5, c5, W10, hrun, ho5, hc5, hb5⟩ := push_ref W9 0 (Nat.zero_le _) _ _ hx9 (f', t', xs') W8.heap.size (by rw [hW9, hst]; exact heap_alloc_last _ _) (by omega)
  rw [hW9] at hrun
  have HRUN := Lib.hid hrun
  have HO5 := Lib.hid ho5
  have HC5 := Lib.hid hc5
  have HB5 := Lib.hid (hb5.imp id (fun ⟨g, e1, e2⟩ => (⟨g, e1, Nat.le_trans hcw.size (Nat.le_trans hu9.size e2)⟩ : ∃ g, (Value.slice B5 (ls.length + 1) c5).ownBlock = some g ∧ w.heap.size ≤ g)))
  have HU9 := Lib.hid hu9
  have HX9 := Lib.hid hx9
  have HN1 := Lib.hid hn1
  have HB1 := Lib.hid (hb1.imp id (fun ⟨g, e1, e2⟩ => (⟨g, e1, Nat.le_trans HU7.out.size e2⟩ : ∃ g, lv1.ownBlock = some g ∧ w.heap.size ≤ g)))
  have HCW := Lib.hid hcw
  have HYE := Lib.hid hye
  clear hr hn1 hc1 hb1 hlt hout ho8 hcw hx8 hrun ho5 hc5 hb5 hu9 hx9 hW9 hst hye
  go_wp2_with (first
    | refine wpList_oneR rfl (.tmp 177) rfl f' t' st (by rfl) ?_
    | (at_builtin; refine wpList_run_append rfl _ _ 34 rfl _ _ rfl rfl 34 rfl HRUN.out ?_))
  go_ret2
  have e0 : stepI ls 4 (k : Int) f t xs = ls ++ [(f', t', xs')] := by unfold stepI; simp [HAT.out, ← HYE.out]
  have e1 : (ls ++ [((f', t', xs') : Let)]).length = ls.length + 1 := by simp
  rw [e0]
  refine ⟨B5, c5, lv1, _, by rw [e1]; rfl, by rw [e1]; exact HO5.out, (HN1.out.up HU9.out).ref HX9.out HC5.out, ?_, ob_of HB1.out, by rw [e1]; exact ob_of HB5.out⟩
  exact ((HCW.out.then HU9.out (fun i hi => hi.elim)).mono (fun i _ hi => (hi.imp id .inl : i = p ∨ lv.ownBlock = some i ∨ (Value.slice (some ⟨gx, 0, none⟩) ls.length cx).ownBlock = some i))).then HC5.out (fun i hi => .inl (.inr (.inr hi)))
set_option maxRecDepth 100000 in
set_option maxHeartbeats 4000000 in
theorem step4c (w : World) (p : Nat) (lv : Value) (ds : List Value) (ls : List Let) (sent : Int) (h : NetAt w p lv ds ls sent) (hn : ls.length < 1024) (hx : ∀ j, j < ls.length → (ls.getD j default).2.2.length ≤ 1000000) (xv : Value) (hX : XAt w 0 xv ls) (a f t : Int) (d : Value) (xs : List Int) (hd : SlB w d xs) (hnx : xs.length ≤ 1000) (ha0 : 0 ≤ a) (ha : ¬ a < (ls.length : Int)) :
    Calls Try.prog 15 #[.pointer (some ⟨p, 0, none⟩), xv, .agg #[.int .i64 4, .int .i64 a, .int .i64 f, .int .i64 t, d]] w (StepPost p lv xv (stepI ls 4 a f t xs) (sent + stepS 4 f t) w) := by
  obtain ⟨Ax, cx, rfl⟩ := own_shape hX
  obtain ⟨A, c, rfl, hl1, hl2⟩ := hd.shape
  rw [stepS_not (show (4 : Int) ≠ 1 by decide), Int.add_zero]
  have hat := atI_far (ls := ls) ha
  rw [stepI_not (show (4 : Int) ≠ 1 by decide) hat]
  obtain ⟨W7, hW7⟩ : ∃ W, W = w.alloc (.cells #[.int .i64 4, .int .i64 a, .int .i64 f, .int .i64 t, .slice A xs.length c] 36) := ⟨_, rfl⟩
  have hu7 : Up w W7 := by rw [hW7]; exact (Chg.refl _ w).alloc _
  have ho7 : W7.heap[w.heap.size]? = some (.cells #[.int .i64 4, .int .i64 a, .int .i64 f, .int .i64 t, .slice A xs.length c] 36 (0, 0)) := by rw [hW7]; exact heap_alloc_last w _
  have hcl := twice_any W7 p lv ds ls sent a (h.up hu7) hx
  rw [twice_not hat] at hcl
  have HC := Lib.hid hcl
  clear hcl
  have HN := Lib.hid h
  have HX := Lib.hid hX
  have HD := Lib.hid hd
  have HU7 := Lib.hid hu7
  have HO7 := Lib.hid ho7
  have HW7 := Lib.hid hW7
  have HAT := Lib.hid hat
  have HXL := Lib.hid hx
  clear h hX hd hu7 ho7 hW7 hat hx
  go_enter Try.func15, Try.ntmps15
  go_wp2_with fail
  rw [← HW7.out]
  refine HC.out.mono ?_
  rintro e W8 ⟨rfl, hr⟩
  have HU8 := Lib.hid (HU7.out.trans (hr.resolve_right (fun h => absurd h.1 (by decide))).2)
  clear hr HC
  go_wp2_with fail
  go_ret2
  exact ⟨Ax, cx, lv, ds, rfl, own_chg HX.out HU8.out (fun _ _ h => h), HN.out.up HU8.out, HU8.out.mono (fun _ _ h => h.elim), fun _ h => .inl h, fun _ h => .inl h⟩
end Go.Proofs.Ytofmblkmfbioiaa
