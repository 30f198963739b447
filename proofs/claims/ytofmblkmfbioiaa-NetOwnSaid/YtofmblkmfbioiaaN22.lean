/-
  step, walked: a letter says something else; what is no call.
-/
import Derived.Test.YtofmblkmfbioiaaN21
namespace Go.Proofs.Ytofmblkmfbioiaa
open Go.RowKit
theorem rowR_one (ls : List Let) : ∀ u ∈ rowR ls, u.oneCell' = true := by
  intro u hu
  unfold rowR at hu
  obtain ⟨l, hl, hul⟩ := List.mem_flatten.1 hu
  obtain ⟨x, _, rfl⟩ := List.mem_map.1 hl
  simp [refC] at hul
  rcases hul with rfl | rfl | rfl <;> rfl
theorem rowR_set : ∀ (ls : List Let) (k : Nat) (xs : List Int), k < ls.length → (rowR ls).set (3 * k + 2) (.string (strOfNums xs)) = rowR (ls.set k ((ls.getD k default).1, (ls.getD k default).2.1, xs))
  | [], _, _, h => by simp at h
  | x :: ls, 0, xs, _ => by simp [rowR, refC]
  | x :: ls, k + 1, xs, hk => by
    have ih := rowR_set ls k xs (by simpa using hk)
    have e : ∀ (y : Let) (l : List Let), rowR (y :: l) = refC y ++ rowR l := fun y l => by simp [rowR]
    have hl : (refC x).length = 3 := rfl
    rw [e, List.set_cons_succ, e, List.set_append, if_neg (by omega), hl, show 3 * (k + 1) + 2 - 3 = 3 * k + 2 by omega, ih]
    simp
theorem XAt.src {w : World} {b : Nat} {v : Value} {ls : List Let} (h : XAt w b v ls) : Src w v 3 ls.length (rowR ls) := by
  rcases h.2 with ⟨hv, h0⟩ | ⟨g, cap, cur, rfl, _, _, h1, h2, _⟩
  · have : ls = [] := List.eq_nil_of_length_eq_zero h0
    subst this
    exact .inl ⟨hv, rfl, rfl⟩
  · exact .inr ⟨⟨g, 0, none⟩, cap, rfl, h.1, h1, by simpa [maxLen] using h2, fun j u hu => World.ownsRow.cells h rfl j u hu⟩
/-- A list of letters written anew. -/
theorem app_emptyR (w : World) (b : Nat) (v : Value) (ls : List Let) (h : XAt w b v ls) (hn : ls.length ≤ 100000) : ∃ B c w', (Builtin.append_ #[34, 34] 34 #[.slice (some ⟨w.heap.size, 0, none⟩) 0 0, v]).run Try.prog (w.alloc (.cells #[] 49)) = .ok (.slice B ls.length c) w' ∧
    XAt w' w.heap.size (.slice B ls.length c) ls ∧ Up w w' := by
  obtain ⟨v', w', hr, ho, hg, _, hb⟩ := ap_run (P := Try.prog) (w.alloc (.cells #[] 49)) 34 34 w.heap.size 49 (.agg #[.int .i64 0, .int .i64 0, .string ⟨#[]⟩]) 3 32 Try.underlying34 info49z rfl (by decide) _ 0 [] (World.ownsRow_made w #[] 0 (Nat.le_refl _) (by omega) rfl) v ls.length (rowR ls)
    (Src.chg h.src ((Chg.refl (fun _ => False) w).alloc _) (fun _ _ _ h => h) (by decide)) (rowR_one ls) (by omega) (by omega) (by simp)
  rw [Nat.zero_add, List.nil_append] at ho
  obtain ⟨B, c, rfl⟩ := own_shape ho
  refine ⟨B, c, w', hr, ho, ((Chg.refl (fun _ => False) w).alloc _).then (Chg.of_grownBy hg) (fun i hi => ?_)⟩
  simp [Value.ownBlock] at hi
  exact .inr (by omega)
set_option maxRecDepth 100000 in
set_option maxHeartbeats 4000000 in
theorem step5a (w : World) (p : Nat) (lv : Value) (ds : List Value) (ls : List Let) (sent : Int) (h : NetAt w p lv ds ls sent) (hn : ls.length < 1024) (hx : ∀ j, j < ls.length → (ls.getD j default).2.2.length ≤ 1000000) (xv : Value) (hX : XAt w 0 xv ls) (a f t : Int) (d : Value) (xs : List Int) (hd : SlB w d xs) (hnx : xs.length ≤ 1000) (ha : a < 0) :
    Calls Try.prog 15 #[.pointer (some ⟨p, 0, none⟩), xv, .agg #[.int .i64 5, .int .i64 a, .int .i64 f, .int .i64 t, d]] w (StepPost p lv xv (stepI ls 5 a f t xs) (sent + stepS 5 f t) w) := by
  obtain ⟨Ax, cx, rfl⟩ := own_shape hX
  obtain ⟨A, c, rfl, hl1, hl2⟩ := hd.shape
  rw [stepS_not (show (5 : Int) ≠ 1 by decide), Int.add_zero]
  have hat := atI_neg (ls := ls) ha
  rw [stepI_not (show (5 : Int) ≠ 1 by decide) hat]
  obtain ⟨W7, hW7⟩ : ∃ W, W = w.alloc (.cells #[.int .i64 5, .int .i64 a, .int .i64 f, .int .i64 t, .slice A xs.length c] 36) := ⟨_, rfl⟩
  have hu7 : Up w W7 := by rw [hW7]; exact (Chg.refl _ w).alloc _
  have ho7 : W7.heap[w.heap.size]? = some (.cells #[.int .i64 5, .int .i64 a, .int .i64 f, .int .i64 t, .slice A xs.length c] 36 (0, 0)) := by rw [hW7]; exact heap_alloc_last w _
  have hcl := bend_any W7 p lv ds ls sent a (h.up hu7) _ xs (Src.chg hd hu7 (fun _ _ _ h => h) (by decide)) (by omega)
  rw [hat] at hcl
  rw [if_neg (show ¬ (false = true) by decide)] at hcl
  have HC := Lib.hid hcl
  clear hcl
  have HN := Lib.hid h
  have HX := Lib.hid hX
  have HD := Lib.hid hd
  have HU7 := Lib.hid hu7
  have HO7 := Lib.hid ho7
  have HW7 := Lib.hid hW7
  have HAT := Lib.hid hat
  have HXL := Lib.hid hx
  clear h hX hd hu7 ho7 hW7 hat hx
  go_enter Try.func15, Try.ntmps15
  go_wp2_with fail
  rw [← HW7.out]
  refine HC.out.mono ?_
  rintro e W8 ⟨rfl, hr⟩
  have HU8 := Lib.hid (HU7.out.trans (hr.resolve_right (fun h => absurd h.1 (by decide))).2)
  clear hr HC
  go_wp2_with fail
  go_ret2
  exact ⟨Ax, cx, lv, ds, rfl, own_chg HX.out HU8.out (fun _ _ h => h), HN.out.up HU8.out, HU8.out.mono (fun _ _ h => h.elim), fun _ h => .inl h, fun _ h => .inl h⟩
set_option maxRecDepth 100000 in
set_option maxHeartbeats 4000000 in
theorem step5b (w : World) (p : Nat) (lv : Value) (ds : List Value) (ls : List Let) (sent : Int) (h : NetAt w p lv ds ls sent) (hn : ls.length < 1024) (hx : ∀ j, j < ls.length → (ls.getD j default).2.2.length ≤ 1000000) (xv : Value) (hX : XAt w 0 xv ls) (a f t : Int) (d : Value) (xs : List Int) (hd : SlB w d xs) (hnx : xs.length ≤ 1000) (ha : 0 ≤ a) (ha2 : a < ls.length) (hdl : ∀ b, Value.blk d = some b → 0 < xs.length → b ≠ p ∧ lv.ownBlock ≠ some b) :
    Calls Try.prog 15 #[.pointer (some ⟨p, 0, none⟩), xv, .agg #[.int .i64 5, .int .i64 a, .int .i64 f, .int .i64 t, d]] w (StepPost p lv xv (stepI ls 5 a f t xs) (sent + stepS 5 f t) w) := by
  obtain ⟨Ax, cx, rfl⟩ := own_shape hX
  obtain ⟨A, c, rfl, hl1, hl2⟩ := hd.shape
  rw [stepS_not (show (5 : Int) ≠ 1 by decide), Int.add_zero]
  have hat := atI_in ha ha2
  obtain ⟨W7, hW7⟩ : ∃ W, W = w.alloc (.cells #[.int .i64 5, .int .i64 a, .int .i64 f, .int .i64 t, .slice A xs.length c] 36) := ⟨_, rfl⟩
  have hu7 : Up w W7 := by rw [hW7]; exact (Chg.refl _ w).alloc _
  have ho7 : W7.heap[w.heap.size]? = some (.cells #[.int .i64 5, .int .i64 a, .int .i64 f, .int .i64 t, .slice A xs.length c] 36 (0, 0)) := by rw [hW7]; exact heap_alloc_last w _
  have hcl := bend_any W7 p lv ds ls sent a (h.up hu7) _ xs (Src.chg hd hu7 (fun _ _ _ h => h) (by decide)) (by omega)
  rw [hat] at hcl
  rw [if_pos rfl] at hcl
  have HC := Lib.hid hcl
  clear hcl
  have HN := Lib.hid h
  have HX := Lib.hid hX
  have HD := Lib.hid hd
  have HU7 := Lib.hid hu7
  have HO7 := Lib.hid ho7
  have HW7 := Lib.hid hW7
  have HAT := Lib.hid hat
  have HXL := Lib.hid hx
  clear h hX hd hu7 ho7 hW7 hat hx
  go_enter Try.func15, Try.ntmps15
  go_wp2_with fail
  rw [← HW7.out]
  refine HC.out.mono ?_
  rintro e W8 ⟨rfl, hr⟩
  obtain ⟨_, d1, hn1, hc1⟩ := hr.resolve_left (fun h => absurd h.1 (by decide))
  have hlt : w.heap.size < W7.heap.size := (Array.getElem?_eq_some_iff.1 HO7.out).1
  have hout : ¬ (w.heap.size = p ∨ lv.ownBlock = some w.heap.size) := fun hs => by
    rcases hs with hs | hs
    · have := (Array.getElem?_eq_some_iff.1 HN.out.obj).1; omega
    · have := own_lt HN.out.row _ hs; omega
  have ho8 := hc1.heap HO7.out (fun hs => hout (.inr hs))
  have hcw : Chg (fun i => i = p ∨ lv.ownBlock = some i) w W8 := (HU7.out.mono (fun _ _ h => h.elim)).then hc1 (fun i hi => .inl (.inr hi))
  have hx8 := HX.out.net HN.out hcw
  obtain ⟨k, rfl, hk⟩ := atI_nat HAT.out
  rw [Int.toNat_natCast] at hn1
  obtain ⟨B9, c9, W9, hrun, hx9, hu9⟩ := app_emptyR W8 0 _ ls hx8 (by omega)
  have ho9 := hu9.heap ho8 (fun h => h)
  have o1 := cell_of_row W9 w.heap.size 1 _ _ _ ho9
  have o4 := cell_of_row W9 w.heap.size 4 _ _ _ ho9
  obtain ⟨gx, rfl⟩ : ∃ g, B9 = some ⟨g, 0, none⟩ := by
    rcases hx9.2 with ⟨h0, hz⟩ | ⟨g, cap, cur, he, _⟩
    · omega
    · injection he with e1; exact ⟨g, e1⟩
  obtain ⟨s0, s1, s2⟩ := hx9.cells k hk
  have fz := World.ownsRow.frozenAt hx9 (k * 3 + 2)
  have hcw9 : Chg (fun i => i = p ∨ lv.ownBlock = some i) w W9 := hcw.then hu9 (fun i hi => hi.elim)
  have hstr := sl_string (Src.chg HD.out hcw9 (fun b hb h0 hs => hs.elim (hdl b hb h0).1 (hdl b hb h0).2) (by decide))
  obtain ⟨y, hye⟩ : ∃ y, ls.getD k default = y := ⟨_, rfl⟩
  rw [hye] at s0 s1 s2 hn1
  obtain ⟨f', t', xs'⟩ := y
  dsimp only at s0 s1 s2 hn1
  obtain ⟨st, hst⟩ : ∃ s, strOfNums xs = s := ⟨_, rfl⟩
  rw [hst] at hstr
  have HYE := Lib.hid hye
  have HST := Lib.hid hst
  have HRUN := Lib.hid hrun
  have HX9 := Lib.hid hx9
  have HU9 := Lib.hid hu9
  have HN1 := Lib.hid hn1
  have HCW := Lib.hid hcw
  clear hr hn1 hc1 hlt hout ho8 ho9 hcw hx8 hrun hx9 hu9 hcw9 hst hye hdl
  go_wp2_with (at_builtin; refine wpList_run_append rfl _ _ 34 rfl _ _ rfl rfl 34 rfl HRUN.out ?_)
  go_ret2
  have e0 : stepI ls 5 (k : Int) f t xs = ls.set k (f', t', xs) := by
    unfold stepI
    rw [if_neg (by decide), if_neg (by decide), if_neg (by decide), if_neg (by decide), if_pos rfl, if_pos HAT.out, Int.toNat_natCast, HYE.out]
  obtain ⟨h1, h2⟩ := World.ownsRow.stored HX9.out (k * 3 + 2) (.string st)
  have hrs := rowR_set ls k xs hk
  rw [HYE.out, HST.out, show 3 * k + 2 = k * 3 + 2 by omega] at hrs
  dsimp only at hrs
  rw [hrs] at h1
  have hc2 : Chg (fun i => (Value.slice (some ⟨gx, 0, none⟩) ls.length c9).ownBlock = some i) W9 (W9.setCell ⟨gx, k * 3 + 2, none⟩ (.string st)) := (Chg.of_grownBy h2).mono (fun i _ hi => hi.symm)
  have e1 : (ls.set k (f', t', xs)).length = ls.length := List.length_set
  rw [e0]
  refine ⟨some ⟨gx, 0, none⟩, c9, lv, _, by rw [e1]; rfl, ?_, (HN1.out.up HU9.out).ref HX9.out hc2, ?_, fun _ h => .inl h, by rw [e1]; exact fun g hg => .inr (Nat.le_trans HCW.out.size (own_ge HX9.out g hg))⟩
  · unfold XAt
    rw [e1]
    exact own_base h1 (Nat.zero_le _)
  · exact ((HCW.out.then HU9.out (fun i hi => hi.elim)).mono (fun i _ hi => (hi.imp id .inl : i = p ∨ lv.ownBlock = some i ∨ (Value.slice Ax ls.length cx).ownBlock = some i))).then hc2 (fun i hi => .inr (Nat.le_trans HCW.out.size (own_ge HX9.out i hi)))
set_option maxRecDepth 100000 in
set_option maxHeartbeats 4000000 in
theorem step5c (w : World) (p : Nat) (lv : Value) (ds : List Value) (ls : List Let) (sent : Int) (h : NetAt w p lv ds ls sent) (hn : ls.length < 1024) (hx : ∀ j, j < ls.length → (ls.getD j default).2.2.length ≤ 1000000) (xv : Value) (hX : XAt w 0 xv ls) (a f t : Int) (d : Value) (xs : List Int) (hd : SlB w d xs) (hnx : xs.length ≤ 1000) (ha0 : 0 ≤ a) (ha : ¬ a < (ls.length : Int)) :
    Calls Try.prog 15 #[.pointer (some ⟨p, 0, none⟩), xv, .agg #[.int .i64 5, .int .i64 a, .int .i64 f, .int .i64 t, d]] w (StepPost p lv xv (stepI ls 5 a f t xs) (sent + stepS 5 f t) w) := by
  obtain ⟨Ax, cx, rfl⟩ := own_shape hX
  obtain ⟨A, c, rfl, hl1, hl2⟩ := hd.shape
  rw [stepS_not (show (5 : Int) ≠ 1 by decide), Int.add_zero]
  have hat := atI_far (ls := ls) ha
  rw [stepI_not (show (5 : Int) ≠ 1 by decide) hat]
  obtain ⟨W7, hW7⟩ : ∃ W, W = w.alloc (.cells #[.int .i64 5, .int .i64 a, .int .i64 f, .int .i64 t, .slice A xs.length c] 36) := ⟨_, rfl⟩
  have hu7 : Up w W7 := by rw [hW7]; exact (Chg.refl _ w).alloc _
  have ho7 : W7.heap[w.heap.size]? = some (.cells #[.int .i64 5, .int .i64 a, .int .i64 f, .int .i64 t, .slice A xs.length c] 36 (0, 0)) := by rw [hW7]; exact heap_alloc_last w _
  have hcl := bend_any W7 p lv ds ls sent a (h.up hu7) _ xs (Src.chg hd hu7 (fun _ _ _ h => h) (by decide)) (by omega)
  rw [hat] at hcl
  rw [if_neg (show ¬ (false = true) by decide)] at hcl
  have HC := Lib.hid hcl
  clear hcl
  have HN := Lib.hid h
  have HX := Lib.hid hX
  have HD := Lib.hid hd
  have HU7 := Lib.hid hu7
  have HO7 := Lib.hid ho7
  have HW7 := Lib.hid hW7
  have HAT := Lib.hid hat
  have HXL := Lib.hid hx
  clear h hX hd hu7 ho7 hW7 hat hx
  go_enter Try.func15, Try.ntmps15
  go_wp2_with fail
  rw [← HW7.out]
  refine HC.out.mono ?_
  rintro e W8 ⟨rfl, hr⟩
  have HU8 := Lib.hid (HU7.out.trans (hr.resolve_right (fun h => absurd h.1 (by decide))).2)
  clear hr HC
  go_wp2_with fail
  go_ret2
  exact ⟨Ax, cx, lv, ds, rfl, own_chg HX.out HU8.out (fun _ _ h => h), HN.out.up HU8.out, HU8.out.mono (fun _ _ h => h.elim), fun _ h => .inl h, fun _ h => .inl h⟩
set_option maxRecDepth 100000 in
set_option maxHeartbeats 4000000 in
theorem stepXa (w : World) (p : Nat) (lv : Value) (ds : List Value) (ls : List Let) (sent : Int) (h : NetAt w p lv ds ls sent) (hn : ls.length < 1024) (hx : ∀ j, j < ls.length → (ls.getD j default).2.2.length ≤ 1000000) (xv : Value) (hX : XAt w 0 xv ls) (a f t : Int) (d : Value) (xs : List Int) (hd : SlB w d xs) (hnx : xs.length ≤ 1000) (ha : a < 0) (kd : Int) (h1 : kd ≠ 1) (h2 : kd ≠ 2) (h3 : kd ≠ 3) (h4 : kd ≠ 4) (h5 : kd ≠ 5) :
    Calls Try.prog 15 #[.pointer (some ⟨p, 0, none⟩), xv, .agg #[.int .i64 kd, .int .i64 a, .int .i64 f, .int .i64 t, d]] w (StepPost p lv xv (stepI ls kd a f t xs) (sent + stepS kd f t) w) := by
  obtain ⟨Ax, cx, rfl⟩ := own_shape hX
  obtain ⟨A, c, rfl, hl1, hl2⟩ := hd.shape
  rw [stepS_not h1, Int.add_zero, show stepI ls kd a f t xs = ls by unfold stepI; rw [if_neg h1, if_neg h2, if_neg h3, if_neg h4, if_neg h5]]
  have HN := Lib.hid h
  have HX := Lib.hid hX
  have HU8 := Lib.hid (show Up w (w.alloc (.cells #[.int .i64 kd, .int .i64 a, .int .i64 f, .int .i64 t, .slice A xs.length c] 36)) from (Chg.refl _ w).alloc _)
  clear h hX hd hx
  go_enter Try.func15, Try.ntmps15
  go_wp2_with fail
  go_ret2
  exact ⟨Ax, cx, lv, ds, rfl, own_chg HX.out HU8.out (fun _ _ h => h), HN.out.up HU8.out, HU8.out.mono (fun _ _ h => h.elim), fun _ h => .inl h, fun _ h => .inl h⟩
set_option maxRecDepth 100000 in
set_option maxHeartbeats 4000000 in
theorem stepXb (w : World) (p : Nat) (lv : Value) (ds : List Value) (ls : List Let) (sent : Int) (h : NetAt w p lv ds ls sent) (hn : ls.length < 1024) (hx : ∀ j, j < ls.length → (ls.getD j default).2.2.length ≤ 1000000) (xv : Value) (hX : XAt w 0 xv ls) (a f t : Int) (d : Value) (xs : List Int) (hd : SlB w d xs) (hnx : xs.length ≤ 1000) (ha : 0 ≤ a) (ha2 : a < ls.length) (kd : Int) (h1 : kd ≠ 1) (h2 : kd ≠ 2) (h3 : kd ≠ 3) (h4 : kd ≠ 4) (h5 : kd ≠ 5) :
    Calls Try.prog 15 #[.pointer (some ⟨p, 0, none⟩), xv, .agg #[.int .i64 kd, .int .i64 a, .int .i64 f, .int .i64 t, d]] w (StepPost p lv xv (stepI ls kd a f t xs) (sent + stepS kd f t) w) := by
  obtain ⟨Ax, cx, rfl⟩ := own_shape hX
  obtain ⟨A, c, rfl, hl1, hl2⟩ := hd.shape
  rw [stepS_not h1, Int.add_zero, show stepI ls kd a f t xs = ls by unfold stepI; rw [if_neg h1, if_neg h2, if_neg h3, if_neg h4, if_neg h5]]
  have HN := Lib.hid h
  have HX := Lib.hid hX
  have HU8 := Lib.hid (show Up w (w.alloc (.cells #[.int .i64 kd, .int .i64 a, .int .i64 f, .int .i64 t, .slice A xs.length c] 36)) from (Chg.refl _ w).alloc _)
  clear h hX hd hx
  go_enter Try.func15, Try.ntmps15
  go_wp2_with fail
  go_ret2
  exact ⟨Ax, cx, lv, ds, rfl, own_chg HX.out HU8.out (fun _ _ h => h), HN.out.up HU8.out, HU8.out.mono (fun _ _ h => h.elim), fun _ h => .inl h, fun _ h => .inl h⟩
set_option maxRecDepth 100000 in
set_option maxHeartbeats 4000000 in
theorem stepXc (w : World) (p : Nat) (lv : Value) (ds : List Value) (ls : List Let) (sent : Int) (h : NetAt w p lv ds ls sent) (hn : ls.length < 1024) (hx : ∀ j, j < ls.length → (ls.getD j default).2.2.length ≤ 1000000) (xv : Value) (hX : XAt w 0 xv ls) (a f t : Int) (d : Value) (xs : List Int) (hd : SlB w d xs) (hnx : xs.length ≤ 1000) (ha0 : 0 ≤ a) (ha : ¬ a < (ls.length : Int)) (kd : Int) (h1 : kd ≠ 1) (h2 : kd ≠ 2) (h3 : kd ≠ 3) (h4 : kd ≠ 4) (h5 : kd ≠ 5) :
    Calls Try.prog 15 #[.pointer (some ⟨p, 0, none⟩), xv, .agg #[.int .i64 kd, .int .i64 a, .int .i64 f, .int .i64 t, d]] w (StepPost p lv xv (stepI ls kd a f t xs) (sent + stepS kd f t) w) := by
  obtain ⟨Ax, cx, rfl⟩ := own_shape hX
  obtain ⟨A, c, rfl, hl1, hl2⟩ := hd.shape
  rw [stepS_not h1, Int.add_zero, show stepI ls kd a f t xs = ls by unfold stepI; rw [if_neg h1, if_neg h2, if_neg h3, if_neg h4, if_neg h5]]
  have HN := Lib.hid h
  have HX := Lib.hid hX
  have HU8 := Lib.hid (show Up w (w.alloc (.cells #[.int .i64 kd, .int .i64 a, .int .i64 f, .int .i64 t, .slice A xs.length c] 36)) from (Chg.refl _ w).alloc _)
  clear h hX hd hx
  go_enter Try.func15, Try.ntmps15
  go_wp2_with fail
  go_ret2
  exact ⟨Ax, cx, lv, ds, rfl, own_chg HX.out HU8.out (fun _ _ h => h), HN.out.up HU8.out, HU8.out.mono (fun _ _ h => h.elim), fun _ h => .inl h, fun _ h => .inl h⟩
end Go.Proofs.Ytofmblkmfbioiaa
