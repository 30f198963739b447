/-
  One call of a net, beside a list that need not be its own: the other calls.
-/
import Derived.Test.YtofmblkmfbioiaaN36
namespace Go.Proofs.Ytofmblkmfbioiaa
open Go.RowKit
theorem eq49g (f t : Int) (st : ByteArray) (f2 t2 : Int) (st2 : ByteArray) (W : World) : ∃ b, (binOp .eql 49 (.agg #[.int .i64 f, .int .i64 t, .string st]) (.agg #[.int .i64 f2, .int .i64 t2, .string st2])).run Try.prog W = .ok (.bool b) W := by
  by_cases h3 : st.toList = st2.toList <;> cases h1 : (f == f2) <;> cases h2 : (t == t2) <;> first | exact ⟨_, by go_simp; rfl⟩ | exact ⟨_, by go_simp; rw [if_pos h3]⟩ | exact ⟨_, by go_simp; rw [if_neg h3]⟩
theorem guard49g (op : BinOp) (x y : Operand) (f t : Int) (st : ByteArray) (f2 t2 : Int) (st2 : ByteArray) (W : World) : (eqGuard op 49 x y (.agg #[.int .i64 f, .int .i64 t, .string st]) (.agg #[.int .i64 f2, .int .i64 t2, .string st2])).run Try.prog W = .ok () W :=
  run_eqGuard_agg W op 49 x y _ _ (by kernel_rfl)
set_option maxRecDepth 100000 in
set_option maxHeartbeats 4000000 in
theorem stepG3ai (w : World) (p : Nat) (lv : Value) (ds : List Value) (ls : List Let) (sent : Int) (ms : List Let) (h : NetAt w p lv ds ms sent) (hn : ms.length < 1024) (hnl : ls.length < 1024) (hx : ∀ j, j < ms.length → (ms.getD j default).2.2.length ≤ 1000000) (xv : Value) (hX : XAt w 0 xv ls) (a f t : Int) (d : Value) (xs : List Int) (hd : SlB w d xs) (hnx : xs.length ≤ 1000) (ha : a < 0) (hm : atI ms a = true) :
    Calls Try.prog 15 #[.pointer (some ⟨p, 0, none⟩), xv, .agg #[.int .i64 3, .int .i64 a, .int .i64 f, .int .i64 t, d]] w (StepG p lv xv ls (stepI ms 3 a f t xs) (sent + stepS 3 f t) w) := by
  obtain ⟨Ax, cx, rfl⟩ := own_shape hX
  obtain ⟨A, c, rfl, hl1, hl2⟩ := hd.shape
  rw [stepS_not (show (3 : Int) ≠ 1 by decide), Int.add_zero]
  obtain ⟨W7, hW7⟩ : ∃ W, W = w.alloc (.cells #[.int .i64 3, .int .i64 a, .int .i64 f, .int .i64 t, .slice A xs.length c] 36) := ⟨_, rfl⟩
  have hu7 : Up w W7 := by rw [hW7]; exact (Chg.refl _ w).alloc _
  have ho7 : W7.heap[w.heap.size]? = some (.cells #[.int .i64 3, .int .i64 a, .int .i64 f, .int .i64 t, .slice A xs.length c] 36 (0, 0)) := by rw [hW7]; exact heap_alloc_last w _
  have hlt : w.heap.size < W7.heap.size := (Array.getElem?_eq_some_iff.1 ho7).1
  have hout : ¬ (w.heap.size = p ∨ lv.ownBlock = some w.heap.size) := fun hs => by
    rcases hs with hs | hs
    · have := (Array.getElem?_eq_some_iff.1 h.obj).1; omega
    · have := own_lt h.row _ hs; omega
  have e0 : stepI ms 3 a f t xs = ms.eraseIdx a.toNat := by unfold stepI; rw [if_neg (by decide), if_neg (by decide), if_pos rfl, if_pos hm]
  have HC := Lib.hid (drop_any W7 p lv ds ms sent a (h.up hu7) (by omega))
  have HN := Lib.hid h
  have HX := Lib.hid hX
  have HD := Lib.hid hd
  have HU7 := Lib.hid hu7
  have HO7 := Lib.hid ho7
  have HW7 := Lib.hid hW7
  have HM := Lib.hid hm
  have HE0 := Lib.hid e0
  have HOUT := Lib.hid hout
  clear h hX hd hu7 ho7 hW7 hm hx e0 hout hlt
  rw [HE0.out]
  go_enter Try.func15, Try.ntmps15
  go_wp2_with fail
  rw [← HW7.out]
  refine HC.out.mono ?_
  intro e W8 hdp
  rcases hdp with ⟨hat, _⟩ | ⟨_, rfl, lv1, hn1, hl1, hc1⟩
  · rw [HM.out] at hat; cases hat
  have hlb : ∀ g, lv1.ownBlock = some g → lv.ownBlock = some g ∨ w.heap.size ≤ g := fun g hg => .inl (hl1 ▸ hg)
  have hcw : Chg (fun i => i = p ∨ lv.ownBlock = some i) w W8 := (HU7.out.mono (fun _ _ h => h.elim)).then hc1 (fun i hi => .inl hi)
  have ho8 := hc1.heap HO7.out HOUT.out
  have hx8 := HX.out.net HN.out hcw
  have HN1 := Lib.hid hn1
  have HLB := Lib.hid (show ∀ g, lv1.ownBlock = some g → lv.ownBlock = some g ∨ w.heap.size ≤ g from hlb)
  have HCW := Lib.hid hcw
  have HX8 := Lib.hid hx8
  have HO8 := Lib.hid ho8
  clear hcw ho8 hx8 hn1 hlb hc1
  go_wp2_with fail
  go_ret2
  exact ⟨_, _, lv1, _, rfl, HN1.out, HX8.out, (HCW.out).mono (fun i _ hi => hi.imp id .inl), HLB.out⟩
set_option maxRecDepth 100000 in
set_option maxHeartbeats 4000000 in
theorem stepG3ao (w : World) (p : Nat) (lv : Value) (ds : List Value) (ls : List Let) (sent : Int) (ms : List Let) (h : NetAt w p lv ds ms sent) (hn : ms.length < 1024) (hnl : ls.length < 1024) (hx : ∀ j, j < ms.length → (ms.getD j default).2.2.length ≤ 1000000) (xv : Value) (hX : XAt w 0 xv ls) (a f t : Int) (d : Value) (xs : List Int) (hd : SlB w d xs) (hnx : xs.length ≤ 1000) (ha : a < 0) (hm : atI ms a = false) :
    Calls Try.prog 15 #[.pointer (some ⟨p, 0, none⟩), xv, .agg #[.int .i64 3, .int .i64 a, .int .i64 f, .int .i64 t, d]] w (StepG p lv xv ls (stepI ms 3 a f t xs) (sent + stepS 3 f t) w) := by
  obtain ⟨Ax, cx, rfl⟩ := own_shape hX
  obtain ⟨A, c, rfl, hl1, hl2⟩ := hd.shape
  rw [stepS_not (show (3 : Int) ≠ 1 by decide), Int.add_zero]
  obtain ⟨W7, hW7⟩ : ∃ W, W = w.alloc (.cells #[.int .i64 3, .int .i64 a, .int .i64 f, .int .i64 t, .slice A xs.length c] 36) := ⟨_, rfl⟩
  have hu7 : Up w W7 := by rw [hW7]; exact (Chg.refl _ w).alloc _
  have ho7 : W7.heap[w.heap.size]? = some (.cells #[.int .i64 3, .int .i64 a, .int .i64 f, .int .i64 t, .slice A xs.length c] 36 (0, 0)) := by rw [hW7]; exact heap_alloc_last w _
  have hlt : w.heap.size < W7.heap.size := (Array.getElem?_eq_some_iff.1 ho7).1
  have hout : ¬ (w.heap.size = p ∨ lv.ownBlock = some w.heap.size) := fun hs => by
    rcases hs with hs | hs
    · have := (Array.getElem?_eq_some_iff.1 h.obj).1; omega
    · have := own_lt h.row _ hs; omega
  have e0 : stepI ms 3 a f t xs = ms := stepI_not (by decide) hm
  have HC := Lib.hid (drop_any W7 p lv ds ms sent a (h.up hu7) (by omega))
  have HN := Lib.hid h
  have HX := Lib.hid hX
  have HD := Lib.hid hd
  have HU7 := Lib.hid hu7
  have HO7 := Lib.hid ho7
  have HW7 := Lib.hid hW7
  have HM := Lib.hid hm
  have HE0 := Lib.hid e0
  have HOUT := Lib.hid hout
  clear h hX hd hu7 ho7 hW7 hm hx e0 hout hlt
  rw [HE0.out]
  go_enter Try.func15, Try.ntmps15
  go_wp2_with fail
  rw [← HW7.out]
  refine HC.out.mono ?_
  intro e W8 hdp
  rcases hdp with ⟨_, rfl, hu8⟩ | ⟨hat, _⟩
  case inr => rw [HM.out] at hat; cases hat
  have hcw : Chg (fun i => i = p ∨ lv.ownBlock = some i) w W8 := (HU7.out.trans hu8).mono (fun _ _ h => h.elim)
  have ho8 := hu8.heap HO7.out (fun h => h)
  have hx8 := HX.out.net HN.out hcw
  have HN1 := Lib.hid (HN.out.up (HU7.out.trans hu8))
  have HLB := Lib.hid (show ∀ g, lv.ownBlock = some g → lv.ownBlock = some g ∨ w.heap.size ≤ g from fun g hg => .inl hg)
  have HCW := Lib.hid hcw
  have HX8 := Lib.hid hx8
  have HO8 := Lib.hid ho8
  clear hcw ho8 hx8 hu8
  go_wp2_with fail
  go_ret2
  exact ⟨_, _, lv, ds, rfl, HN1.out, HX8.out, (HCW.out).mono (fun i _ hi => hi.imp id .inl), HLB.out⟩
set_option maxRecDepth 100000 in
set_option maxHeartbeats 4000000 in
theorem stepG3bi (w : World) (p : Nat) (lv : Value) (ds : List Value) (ls : List Let) (sent : Int) (ms : List Let) (h : NetAt w p lv ds ms sent) (hn : ms.length < 1024) (hnl : ls.length < 1024) (hx : ∀ j, j < ms.length → (ms.getD j default).2.2.length ≤ 1000000) (xv : Value) (hX : XAt w 0 xv ls) (a f t : Int) (d : Value) (xs : List Int) (hd : SlB w d xs) (hnx : xs.length ≤ 1000) (ha : 0 ≤ a) (ha2 : a < ls.length) (hm : atI ms a = true) :
    Calls Try.prog 15 #[.pointer (some ⟨p, 0, none⟩), xv, .agg #[.int .i64 3, .int .i64 a, .int .i64 f, .int .i64 t, d]] w (StepG p lv xv ls (stepI ms 3 a f t xs) (sent + stepS 3 f t) w) := by
  obtain ⟨Ax, cx, rfl⟩ := own_shape hX
  obtain ⟨A, c, rfl, hl1, hl2⟩ := hd.shape
  rw [stepS_not (show (3 : Int) ≠ 1 by decide), Int.add_zero]
  obtain ⟨W7, hW7⟩ : ∃ W, W = w.alloc (.cells #[.int .i64 3, .int .i64 a, .int .i64 f, .int .i64 t, .slice A xs.length c] 36) := ⟨_, rfl⟩
  have hu7 : Up w W7 := by rw [hW7]; exact (Chg.refl _ w).alloc _
  have ho7 : W7.heap[w.heap.size]? = some (.cells #[.int .i64 3, .int .i64 a, .int .i64 f, .int .i64 t, .slice A xs.length c] 36 (0, 0)) := by rw [hW7]; exact heap_alloc_last w _
  have hlt : w.heap.size < W7.heap.size := (Array.getElem?_eq_some_iff.1 ho7).1
  have hout : ¬ (w.heap.size = p ∨ lv.ownBlock = some w.heap.size) := fun hs => by
    rcases hs with hs | hs
    · have := (Array.getElem?_eq_some_iff.1 h.obj).1; omega
    · have := own_lt h.row _ hs; omega
  have e0 : stepI ms 3 a f t xs = ms.eraseIdx a.toNat := by unfold stepI; rw [if_neg (by decide), if_neg (by decide), if_pos rfl, if_pos hm]
  have HC := Lib.hid (drop_any W7 p lv ds ms sent a (h.up hu7) (by omega))
  have HN := Lib.hid h
  have HX := Lib.hid hX
  have HD := Lib.hid hd
  have HU7 := Lib.hid hu7
  have HO7 := Lib.hid ho7
  have HW7 := Lib.hid hW7
  have HM := Lib.hid hm
  have HE0 := Lib.hid e0
  have HOUT := Lib.hid hout
  clear h hX hd hu7 ho7 hW7 hm hx e0 hout hlt
  rw [HE0.out]
  go_enter Try.func15, Try.ntmps15
  go_wp2_with fail
  rw [← HW7.out]
  refine HC.out.mono ?_
  intro e W8 hdp
  rcases hdp with ⟨hat, _⟩ | ⟨_, rfl, lv1, hn1, hl1, hc1⟩
  · rw [HM.out] at hat; cases hat
  have hlb : ∀ g, lv1.ownBlock = some g → lv.ownBlock = some g ∨ w.heap.size ≤ g := fun g hg => .inl (hl1 ▸ hg)
  have hcw : Chg (fun i => i = p ∨ lv.ownBlock = some i) w W8 := (HU7.out.mono (fun _ _ h => h.elim)).then hc1 (fun i hi => .inl hi)
  have ho8 := hc1.heap HO7.out HOUT.out
  have hx8 := HX.out.net HN.out hcw
  have HN1 := Lib.hid hn1
  have HLB := Lib.hid (show ∀ g, lv1.ownBlock = some g → lv.ownBlock = some g ∨ w.heap.size ≤ g from hlb)
  have HCW := Lib.hid hcw
  have HX8 := Lib.hid hx8
  have HO8 := Lib.hid ho8
  clear hcw ho8 hx8 hn1 hlb hc1
  have o1 := cell_of_row W8 w.heap.size 1 _ _ _ HO8.out
  obtain ⟨k, rfl⟩ : ∃ k : Nat, a = k := ⟨a.toNat, by omega⟩
  have hk : k < ls.length := by omega
  have HWO := Lib.hid (without_any W8 0 _ ls HX8.out k hk (by omega))
  go_wp2_with fail
  refine HWO.out.mono ?_
  rintro e W9 ⟨B9, c9, rfl, hx9, hb9⟩
  have HU9 := Lib.hid (up_below hb9)
  clear hx9 hb9 o1
  go_wp2_with fail
  go_ret2
  exact ⟨_, _, lv1, _, rfl, HN1.out.up HU9.out, own_chg HX8.out HU9.out (fun _ _ h => h), ((HCW.out.then HU9.out (fun i hi => hi.elim))).mono (fun i _ hi => hi.imp id .inl), HLB.out⟩
set_option maxRecDepth 100000 in
set_option maxHeartbeats 4000000 in
theorem stepG3bo (w : World) (p : Nat) (lv : Value) (ds : List Value) (ls : List Let) (sent : Int) (ms : List Let) (h : NetAt w p lv ds ms sent) (hn : ms.length < 1024) (hnl : ls.length < 1024) (hx : ∀ j, j < ms.length → (ms.getD j default).2.2.length ≤ 1000000) (xv : Value) (hX : XAt w 0 xv ls) (a f t : Int) (d : Value) (xs : List Int) (hd : SlB w d xs) (hnx : xs.length ≤ 1000) (ha : 0 ≤ a) (ha2 : a < ls.length) (hm : atI ms a = false) :
    Calls Try.prog 15 #[.pointer (some ⟨p, 0, none⟩), xv, .agg #[.int .i64 3, .int .i64 a, .int .i64 f, .int .i64 t, d]] w (StepG p lv xv ls (stepI ms 3 a f t xs) (sent + stepS 3 f t) w) := by
  obtain ⟨Ax, cx, rfl⟩ := own_shape hX
  obtain ⟨A, c, rfl, hl1, hl2⟩ := hd.shape
  rw [stepS_not (show (3 : Int) ≠ 1 by decide), Int.add_zero]
  obtain ⟨W7, hW7⟩ : ∃ W, W = w.alloc (.cells #[.int .i64 3, .int .i64 a, .int .i64 f, .int .i64 t, .slice A xs.length c] 36) := ⟨_, rfl⟩
  have hu7 : Up w W7 := by rw [hW7]; exact (Chg.refl _ w).alloc _
  have ho7 : W7.heap[w.heap.size]? = some (.cells #[.int .i64 3, .int .i64 a, .int .i64 f, .int .i64 t, .slice A xs.length c] 36 (0, 0)) := by rw [hW7]; exact heap_alloc_last w _
  have hlt : w.heap.size < W7.heap.size := (Array.getElem?_eq_some_iff.1 ho7).1
  have hout : ¬ (w.heap.size = p ∨ lv.ownBlock = some w.heap.size) := fun hs => by
    rcases hs with hs | hs
    · have := (Array.getElem?_eq_some_iff.1 h.obj).1; omega
    · have := own_lt h.row _ hs; omega
  have e0 : stepI ms 3 a f t xs = ms := stepI_not (by decide) hm
  have HC := Lib.hid (drop_any W7 p lv ds ms sent a (h.up hu7) (by omega))
  have HN := Lib.hid h
  have HX := Lib.hid hX
  have HD := Lib.hid hd
  have HU7 := Lib.hid hu7
  have HO7 := Lib.hid ho7
  have HW7 := Lib.hid hW7
  have HM := Lib.hid hm
  have HE0 := Lib.hid e0
  have HOUT := Lib.hid hout
  clear h hX hd hu7 ho7 hW7 hm hx e0 hout hlt
  rw [HE0.out]
  go_enter Try.func15, Try.ntmps15
  go_wp2_with fail
  rw [← HW7.out]
  refine HC.out.mono ?_
  intro e W8 hdp
  rcases hdp with ⟨_, rfl, hu8⟩ | ⟨hat, _⟩
  case inr => rw [HM.out] at hat; cases hat
  have hcw : Chg (fun i => i = p ∨ lv.ownBlock = some i) w W8 := (HU7.out.trans hu8).mono (fun _ _ h => h.elim)
  have ho8 := hu8.heap HO7.out (fun h => h)
  have hx8 := HX.out.net HN.out hcw
  have HN1 := Lib.hid (HN.out.up (HU7.out.trans hu8))
  have HLB := Lib.hid (show ∀ g, lv.ownBlock = some g → lv.ownBlock = some g ∨ w.heap.size ≤ g from fun g hg => .inl hg)
  have HCW := Lib.hid hcw
  have HX8 := Lib.hid hx8
  have HO8 := Lib.hid ho8
  clear hcw ho8 hx8 hu8
  have o1 := cell_of_row W8 w.heap.size 1 _ _ _ HO8.out
  obtain ⟨k, rfl⟩ : ∃ k : Nat, a = k := ⟨a.toNat, by omega⟩
  have hk : k < ls.length := by omega
  have HWO := Lib.hid (without_any W8 0 _ ls HX8.out k hk (by omega))
  go_wp2_with fail
  refine HWO.out.mono ?_
  rintro e W9 ⟨B9, c9, rfl, hx9, hb9⟩
  have HU9 := Lib.hid (up_below hb9)
  clear hx9 hb9 o1
  go_wp2_with fail
  go_ret2
  exact ⟨_, _, lv, ds, rfl, HN1.out.up HU9.out, own_chg HX8.out HU9.out (fun _ _ h => h), ((HCW.out.then HU9.out (fun i hi => hi.elim))).mono (fun i _ hi => hi.imp id .inl), HLB.out⟩
set_option maxRecDepth 100000 in
set_option maxHeartbeats 4000000 in
theorem stepG3ci (w : World) (p : Nat) (lv : Value) (ds : List Value) (ls : List Let) (sent : Int) (ms : List Let) (h : NetAt w p lv ds ms sent) (hn : ms.length < 1024) (hnl : ls.length < 1024) (hx : ∀ j, j < ms.length → (ms.getD j default).2.2.length ≤ 1000000) (xv : Value) (hX : XAt w 0 xv ls) (a f t : Int) (d : Value) (xs : List Int) (hd : SlB w d xs) (hnx : xs.length ≤ 1000) (ha0 : 0 ≤ a) (ha : ¬ a < (ls.length : Int)) (hm : atI ms a = true) :
    Calls Try.prog 15 #[.pointer (some ⟨p, 0, none⟩), xv, .agg #[.int .i64 3, .int .i64 a, .int .i64 f, .int .i64 t, d]] w (StepG p lv xv ls (stepI ms 3 a f t xs) (sent + stepS 3 f t) w) := by
  obtain ⟨Ax, cx, rfl⟩ := own_shape hX
  obtain ⟨A, c, rfl, hl1, hl2⟩ := hd.shape
  rw [stepS_not (show (3 : Int) ≠ 1 by decide), Int.add_zero]
  obtain ⟨W7, hW7⟩ : ∃ W, W = w.alloc (.cells #[.int .i64 3, .int .i64 a, .int .i64 f, .int .i64 t, .slice A xs.length c] 36) := ⟨_, rfl⟩
  have hu7 : Up w W7 := by rw [hW7]; exact (Chg.refl _ w).alloc _
  have ho7 : W7.heap[w.heap.size]? = some (.cells #[.int .i64 3, .int .i64 a, .int .i64 f, .int .i64 t, .slice A xs.length c] 36 (0, 0)) := by rw [hW7]; exact heap_alloc_last w _
  have hlt : w.heap.size < W7.heap.size := (Array.getElem?_eq_some_iff.1 ho7).1
  have hout : ¬ (w.heap.size = p ∨ lv.ownBlock = some w.heap.size) := fun hs => by
    rcases hs with hs | hs
    · have := (Array.getElem?_eq_some_iff.1 h.obj).1; omega
    · have := own_lt h.row _ hs; omega
  have e0 : stepI ms 3 a f t xs = ms.eraseIdx a.toNat := by unfold stepI; rw [if_neg (by decide), if_neg (by decide), if_pos rfl, if_pos hm]
  have HC := Lib.hid (drop_any W7 p lv ds ms sent a (h.up hu7) (by omega))
  have HN := Lib.hid h
  have HX := Lib.hid hX
  have HD := Lib.hid hd
  have HU7 := Lib.hid hu7
  have HO7 := Lib.hid ho7
  have HW7 := Lib.hid hW7
  have HM := Lib.hid hm
  have HE0 := Lib.hid e0
  have HOUT := Lib.hid hout
  clear h hX hd hu7 ho7 hW7 hm hx e0 hout hlt
  rw [HE0.out]
  go_enter Try.func15, Try.ntmps15
  go_wp2_with fail
  rw [← HW7.out]
  refine HC.out.mono ?_
  intro e W8 hdp
  rcases hdp with ⟨hat, _⟩ | ⟨_, rfl, lv1, hn1, hl1, hc1⟩
  · rw [HM.out] at hat; cases hat
  have hlb : ∀ g, lv1.ownBlock = some g → lv.ownBlock = some g ∨ w.heap.size ≤ g := fun g hg => .inl (hl1 ▸ hg)
  have hcw : Chg (fun i => i = p ∨ lv.ownBlock = some i) w W8 := (HU7.out.mono (fun _ _ h => h.elim)).then hc1 (fun i hi => .inl hi)
  have ho8 := hc1.heap HO7.out HOUT.out
  have hx8 := HX.out.net HN.out hcw
  have HN1 := Lib.hid hn1
  have HLB := Lib.hid (show ∀ g, lv1.ownBlock = some g → lv.ownBlock = some g ∨ w.heap.size ≤ g from hlb)
  have HCW := Lib.hid hcw
  have HX8 := Lib.hid hx8
  have HO8 := Lib.hid ho8
  clear hcw ho8 hx8 hn1 hlb hc1
  go_wp2_with fail
  go_ret2
  exact ⟨_, _, lv1, _, rfl, HN1.out, HX8.out, (HCW.out).mono (fun i _ hi => hi.imp id .inl), HLB.out⟩
set_option maxRecDepth 100000 in
set_option maxHeartbeats 4000000 in
theorem stepG3co (w : World) (p : Nat) (lv : Value) (ds : List Value) (ls : List Let) (sent : Int) (ms : List Let) (h : NetAt w p lv ds ms sent) (hn : ms.length < 1024) (hnl : ls.length < 1024) (hx : ∀ j, j < ms.length → (ms.getD j default).2.2.length ≤ 1000000) (xv : Value) (hX : XAt w 0 xv ls) (a f t : Int) (d : Value) (xs : List Int) (hd : SlB w d xs) (hnx : xs.length ≤ 1000) (ha0 : 0 ≤ a) (ha : ¬ a < (ls.length : Int)) (hm : atI ms a = false) :
    Calls Try.prog 15 #[.pointer (some ⟨p, 0, none⟩), xv, .agg #[.int .i64 3, .int .i64 a, .int .i64 f, .int .i64 t, d]] w (StepG p lv xv ls (stepI ms 3 a f t xs) (sent + stepS 3 f t) w) := by
  obtain ⟨Ax, cx, rfl⟩ := own_shape hX
  obtain ⟨A, c, rfl, hl1, hl2⟩ := hd.shape
  rw [stepS_not (show (3 : Int) ≠ 1 by decide), Int.add_zero]
  obtain ⟨W7, hW7⟩ : ∃ W, W = w.alloc (.cells #[.int .i64 3, .int .i64 a, .int .i64 f, .int .i64 t, .slice A xs.length c] 36) := ⟨_, rfl⟩
  have hu7 : Up w W7 := by rw [hW7]; exact (Chg.refl _ w).alloc _
  have ho7 : W7.heap[w.heap.size]? = some (.cells #[.int .i64 3, .int .i64 a, .int .i64 f, .int .i64 t, .slice A xs.length c] 36 (0, 0)) := by rw [hW7]; exact heap_alloc_last w _
  have hlt : w.heap.size < W7.heap.size := (Array.getElem?_eq_some_iff.1 ho7).1
  have hout : ¬ (w.heap.size = p ∨ lv.ownBlock = some w.heap.size) := fun hs => by
    rcases hs with hs | hs
    · have := (Array.getElem?_eq_some_iff.1 h.obj).1; omega
    · have := own_lt h.row _ hs; omega
  have e0 : stepI ms 3 a f t xs = ms := stepI_not (by decide) hm
  have HC := Lib.hid (drop_any W7 p lv ds ms sent a (h.up hu7) (by omega))
  have HN := Lib.hid h
  have HX := Lib.hid hX
  have HD := Lib.hid hd
  have HU7 := Lib.hid hu7
  have HO7 := Lib.hid ho7
  have HW7 := Lib.hid hW7
  have HM := Lib.hid hm
  have HE0 := Lib.hid e0
  have HOUT := Lib.hid hout
  clear h hX hd hu7 ho7 hW7 hm hx e0 hout hlt
  rw [HE0.out]
  go_enter Try.func15, Try.ntmps15
  go_wp2_with fail
  rw [← HW7.out]
  refine HC.out.mono ?_
  intro e W8 hdp
  rcases hdp with ⟨_, rfl, hu8⟩ | ⟨hat, _⟩
  case inr => rw [HM.out] at hat; cases hat
  have hcw : Chg (fun i => i = p ∨ lv.ownBlock = some i) w W8 := (HU7.out.trans hu8).mono (fun _ _ h => h.elim)
  have ho8 := hu8.heap HO7.out (fun h => h)
  have hx8 := HX.out.net HN.out hcw
  have HN1 := Lib.hid (HN.out.up (HU7.out.trans hu8))
  have HLB := Lib.hid (show ∀ g, lv.ownBlock = some g → lv.ownBlock = some g ∨ w.heap.size ≤ g from fun g hg => .inl hg)
  have HCW := Lib.hid hcw
  have HX8 := Lib.hid hx8
  have HO8 := Lib.hid ho8
  clear hcw ho8 hx8 hu8
  go_wp2_with fail
  go_ret2
  exact ⟨_, _, lv, ds, rfl, HN1.out, HX8.out, (HCW.out).mono (fun i _ hi => hi.imp id .inl), HLB.out⟩
set_option maxRecDepth 100000 in
set_option maxHeartbeats 4000000 in
theorem stepG4ai (w : World) (p : Nat) (lv : Value) (ds : List Value) (ls : List Let) (sent : Int) (ms : List Let) (h : NetAt w p lv ds ms sent) (hn : ms.length < 1024) (hnl : ls.length < 1024) (hx : ∀ j, j < ms.length → (ms.getD j default).2.2.length ≤ 1000000) (xv : Value) (hX : XAt w 0 xv ls) (a f t : Int) (d : Value) (xs : List Int) (hd : SlB w d xs) (hnx : xs.length ≤ 1000) (ha : a < 0) (hm : atI ms a = true) :
    Calls Try.prog 15 #[.pointer (some ⟨p, 0, none⟩), xv, .agg #[.int .i64 4, .int .i64 a, .int .i64 f, .int .i64 t, d]] w (StepG p lv xv ls (stepI ms 4 a f t xs) (sent + stepS 4 f t) w) := by
  obtain ⟨Ax, cx, rfl⟩ := own_shape hX
  obtain ⟨A, c, rfl, hl1, hl2⟩ := hd.shape
  rw [stepS_not (show (4 : Int) ≠ 1 by decide), Int.add_zero]
  obtain ⟨W7, hW7⟩ : ∃ W, W = w.alloc (.cells #[.int .i64 4, .int .i64 a, .int .i64 f, .int .i64 t, .slice A xs.length c] 36) := ⟨_, rfl⟩
  have hu7 : Up w W7 := by rw [hW7]; exact (Chg.refl _ w).alloc _
  have ho7 : W7.heap[w.heap.size]? = some (.cells #[.int .i64 4, .int .i64 a, .int .i64 f, .int .i64 t, .slice A xs.length c] 36 (0, 0)) := by rw [hW7]; exact heap_alloc_last w _
  have hlt : w.heap.size < W7.heap.size := (Array.getElem?_eq_some_iff.1 ho7).1
  have hout : ¬ (w.heap.size = p ∨ lv.ownBlock = some w.heap.size) := fun hs => by
    rcases hs with hs | hs
    · have := (Array.getElem?_eq_some_iff.1 h.obj).1; omega
    · have := own_lt h.row _ hs; omega
  have e0 : stepI ms 4 a f t xs = ms ++ [ms.getD a.toNat default] := by unfold stepI; rw [if_neg (by decide), if_neg (by decide), if_neg (by decide), if_pos rfl, if_pos hm]
  have hcl := twice_any W7 p lv ds ms sent a (h.up hu7) hx
  rw [twice_in hm hn] at hcl
  have HC := Lib.hid hcl
  clear hcl
  have HN := Lib.hid h
  have HX := Lib.hid hX
  have HD := Lib.hid hd
  have HU7 := Lib.hid hu7
  have HO7 := Lib.hid ho7
  have HW7 := Lib.hid hW7
  have HM := Lib.hid hm
  have HE0 := Lib.hid e0
  have HOUT := Lib.hid hout
  clear h hX hd hu7 ho7 hW7 hm hx e0 hout hlt
  rw [HE0.out]
  go_enter Try.func15, Try.ntmps15
  go_wp2_with fail
  rw [← HW7.out]
  refine HC.out.mono ?_
  rintro e W8 ⟨rfl, hr⟩
  obtain ⟨_, lv1, d1, hn1, hc1, hb1⟩ := hr.resolve_left (fun h => h.1 rfl)
  clear hr
  have hlb : ∀ g, lv1.ownBlock = some g → lv.ownBlock = some g ∨ w.heap.size ≤ g := fun g hg => (ob_of hb1 g hg).imp id (fun h => Nat.le_trans HU7.out.size h)
  clear hb1
  have hcw : Chg (fun i => i = p ∨ lv.ownBlock = some i) w W8 := (HU7.out.mono (fun _ _ h => h.elim)).then hc1 (fun i hi => .inl hi)
  have ho8 := hc1.heap HO7.out HOUT.out
  have hx8 := HX.out.net HN.out hcw
  have HN1 := Lib.hid hn1
  have HLB := Lib.hid (show ∀ g, lv1.ownBlock = some g → lv.ownBlock = some g ∨ w.heap.size ≤ g from hlb)
  have HCW := Lib.hid hcw
  have HX8 := Lib.hid hx8
  have HO8 := Lib.hid ho8
  clear hcw ho8 hx8 hn1 hlb hc1
  go_wp2_with fail
  go_ret2
  exact ⟨_, _, lv1, _, rfl, HN1.out, HX8.out, (HCW.out).mono (fun i _ hi => hi.imp id .inl), HLB.out⟩
set_option maxRecDepth 100000 in
set_option maxHeartbeats 4000000 in
theorem stepG4ao (w : World) (p : Nat) (lv : Value) (ds : List Value) (ls : List Let) (sent : Int) (ms : List Let) (h : NetAt w p lv ds ms sent) (hn : ms.length < 1024) (hnl : ls.length < 1024) (hx : ∀ j, j < ms.length → (ms.getD j default).2.2.length ≤ 1000000) (xv : Value) (hX : XAt w 0 xv ls) (a f t : Int) (d : Value) (xs : List Int) (hd : SlB w d xs) (hnx : xs.length ≤ 1000) (ha : a < 0) (hm : atI ms a = false) :
    Calls Try.prog 15 #[.pointer (some ⟨p, 0, none⟩), xv, .agg #[.int .i64 4, .int .i64 a, .int .i64 f, .int .i64 t, d]] w (StepG p lv xv ls (stepI ms 4 a f t xs) (sent + stepS 4 f t) w) := by
  obtain ⟨Ax, cx, rfl⟩ := own_shape hX
  obtain ⟨A, c, rfl, hl1, hl2⟩ := hd.shape
  rw [stepS_not (show (4 : Int) ≠ 1 by decide), Int.add_zero]
  obtain ⟨W7, hW7⟩ : ∃ W, W = w.alloc (.cells #[.int .i64 4, .int .i64 a, .int .i64 f, .int .i64 t, .slice A xs.length c] 36) := ⟨_, rfl⟩
  have hu7 : Up w W7 := by rw [hW7]; exact (Chg.refl _ w).alloc _
  have ho7 : W7.heap[w.heap.size]? = some (.cells #[.int .i64 4, .int .i64 a, .int .i64 f, .int .i64 t, .slice A xs.length c] 36 (0, 0)) := by rw [hW7]; exact heap_alloc_last w _
  have hlt : w.heap.size < W7.heap.size := (Array.getElem?_eq_some_iff.1 ho7).1
  have hout : ¬ (w.heap.size = p ∨ lv.ownBlock = some w.heap.size) := fun hs => by
    rcases hs with hs | hs
    · have := (Array.getElem?_eq_some_iff.1 h.obj).1; omega
    · have := own_lt h.row _ hs; omega
  have e0 : stepI ms 4 a f t xs = ms := stepI_not (by decide) hm
  have hcl := twice_any W7 p lv ds ms sent a (h.up hu7) hx
  rw [twice_not hm] at hcl
  have HC := Lib.hid hcl
  clear hcl
  have HN := Lib.hid h
  have HX := Lib.hid hX
  have HD := Lib.hid hd
  have HU7 := Lib.hid hu7
  have HO7 := Lib.hid ho7
  have HW7 := Lib.hid hW7
  have HM := Lib.hid hm
  have HE0 := Lib.hid e0
  have HOUT := Lib.hid hout
  clear h hX hd hu7 ho7 hW7 hm hx e0 hout hlt
  rw [HE0.out]
  go_enter Try.func15, Try.ntmps15
  go_wp2_with fail
  rw [← HW7.out]
  refine HC.out.mono ?_
  rintro e W8 ⟨rfl, hr⟩
  have hu8 := (hr.resolve_right (fun h => absurd h.1 (by decide))).2
  clear hr
  have hcw : Chg (fun i => i = p ∨ lv.ownBlock = some i) w W8 := (HU7.out.trans hu8).mono (fun _ _ h => h.elim)
  have ho8 := hu8.heap HO7.out (fun h => h)
  have hx8 := HX.out.net HN.out hcw
  have HN1 := Lib.hid (HN.out.up (HU7.out.trans hu8))
  have HLB := Lib.hid (show ∀ g, lv.ownBlock = some g → lv.ownBlock = some g ∨ w.heap.size ≤ g from fun g hg => .inl hg)
  have HCW := Lib.hid hcw
  have HX8 := Lib.hid hx8
  have HO8 := Lib.hid ho8
  clear hcw ho8 hx8 hu8
  go_wp2_with fail
  go_ret2
  exact ⟨_, _, lv, ds, rfl, HN1.out, HX8.out, (HCW.out).mono (fun i _ hi => hi.imp id .inl), HLB.out⟩
set_option maxRecDepth 100000 in
set_option maxHeartbeats 4000000 in
theorem stepG4bi (w : World) (p : Nat) (lv : Value) (ds : List Value) (ls : List Let) (sent : Int) (ms : List Let) (h : NetAt w p lv ds ms sent) (hn : ms.length < 1024) (hnl : ls.length < 1024) (hx : ∀ j, j < ms.length → (ms.getD j default).2.2.length ≤ 1000000) (xv : Value) (hX : XAt w 0 xv ls) (a f t : Int) (d : Value) (xs : List Int) (hd : SlB w d xs) (hnx : xs.length ≤ 1000) (ha : 0 ≤ a) (ha2 : a < ls.length) (hm : atI ms a = true) :
    Calls Try.prog 15 #[.pointer (some ⟨p, 0, none⟩), xv, .agg #[.int .i64 4, .int .i64 a, .int .i64 f, .int .i64 t, d]] w (StepG p lv xv ls (stepI ms 4 a f t xs) (sent + stepS 4 f t) w) := by
  obtain ⟨Ax, cx, rfl⟩ := own_shape hX
  obtain ⟨A, c, rfl, hl1, hl2⟩ := hd.shape
  rw [stepS_not (show (4 : Int) ≠ 1 by decide), Int.add_zero]
  obtain ⟨W7, hW7⟩ : ∃ W, W = w.alloc (.cells #[.int .i64 4, .int .i64 a, .int .i64 f, .int .i64 t, .slice A xs.length c] 36) := ⟨_, rfl⟩
  have hu7 : Up w W7 := by rw [hW7]; exact (Chg.refl _ w).alloc _
  have ho7 : W7.heap[w.heap.size]? = some (.cells #[.int .i64 4, .int .i64 a, .int .i64 f, .int .i64 t, .slice A xs.length c] 36 (0, 0)) := by rw [hW7]; exact heap_alloc_last w _
  have hlt : w.heap.size < W7.heap.size := (Array.getElem?_eq_some_iff.1 ho7).1
  have hout : ¬ (w.heap.size = p ∨ lv.ownBlock = some w.heap.size) := fun hs => by
    rcases hs with hs | hs
    · have := (Array.getElem?_eq_some_iff.1 h.obj).1; omega
    · have := own_lt h.row _ hs; omega
  have e0 : stepI ms 4 a f t xs = ms ++ [ms.getD a.toNat default] := by unfold stepI; rw [if_neg (by decide), if_neg (by decide), if_neg (by decide), if_pos rfl, if_pos hm]
  have hcl := twice_any W7 p lv ds ms sent a (h.up hu7) hx
  rw [twice_in hm hn] at hcl
  have HC := Lib.hid hcl
  clear hcl
  have HN := Lib.hid h
  have HX := Lib.hid hX
  have HD := Lib.hid hd
  have HU7 := Lib.hid hu7
  have HO7 := Lib.hid ho7
  have HW7 := Lib.hid hW7
  have HM := Lib.hid hm
  have HE0 := Lib.hid e0
  have HOUT := Lib.hid hout
  clear h hX hd hu7 ho7 hW7 hm hx e0 hout hlt
  rw [HE0.out]
  go_enter Try.func15, Try.ntmps15
  go_wp2_with fail
  rw [← HW7.out]
  refine HC.out.mono ?_
  rintro e W8 ⟨rfl, hr⟩
  obtain ⟨_, lv1, d1, hn1, hc1, hb1⟩ := hr.resolve_left (fun h => h.1 rfl)
  clear hr
  have hlb : ∀ g, lv1.ownBlock = some g → lv.ownBlock = some g ∨ w.heap.size ≤ g := fun g hg => (ob_of hb1 g hg).imp id (fun h => Nat.le_trans HU7.out.size h)
  clear hb1
  have hcw : Chg (fun i => i = p ∨ lv.ownBlock = some i) w W8 := (HU7.out.mono (fun _ _ h => h.elim)).then hc1 (fun i hi => .inl hi)
  have ho8 := hc1.heap HO7.out HOUT.out
  have hx8 := HX.out.net HN.out hcw
  have HN1 := Lib.hid hn1
  have HLB := Lib.hid (show ∀ g, lv1.ownBlock = some g → lv.ownBlock = some g ∨ w.heap.size ≤ g from hlb)
  have HCW := Lib.hid hcw
  have HX8 := Lib.hid hx8
  have HO8 := Lib.hid ho8
  clear hcw ho8 hx8 hn1 hlb hc1
  have o1 := cell_of_row W8 w.heap.size 1 _ _ _ HO8.out
  obtain ⟨k, rfl⟩ : ∃ k : Nat, a = k := ⟨a.toNat, by omega⟩
  have hk : k < ls.length := by omega
  obtain ⟨gx, rfl⟩ : ∃ g, Ax = some ⟨g, 0, none⟩ := by
    rcases HX8.out.2 with ⟨h0, hz⟩ | ⟨g, cap, cur, he, _⟩
    · omega
    · injection he with e1; exact ⟨g, e1⟩
  obtain ⟨s0, s1, s2⟩ := HX8.out.cells k hk
  obtain ⟨y, hye⟩ : ∃ y, ls.getD k default = y := ⟨_, rfl⟩
  rw [hye] at s0 s1 s2
  obtain ⟨f', t', xs'⟩ := y
  dsimp only at s0 s1 s2
  obtain ⟨st, hst⟩ : ∃ s, strOfNums xs' = s := ⟨_, rfl⟩
  rw [hst] at s2
  have hlen : ((ls.length : Int) == 1024) = false := by rw [beq_eq_false_iff_ne]; omega
  obtain ⟨W9, hW9⟩ : ∃ W, W = W8.alloc (.cells #[.int .i64 f', .int .i64 t', .string st] 49) := ⟨_, rfl⟩
  have hu9 : Up W8 W9 := by rw [hW9]; exact (Chg.refl _ W8).alloc _
  have hx9 : XAt W9 0 (.slice (some ⟨gx, 0, none⟩) ls.length cx) ls := own_chg HX8.out hu9 (fun _ _ h => h)
  obtain ⟨B5, c5, W10, hrun, ho5, hc5⟩ := push_keep W9 0 (Nat.zero_le _) _ _ hx9 (f', t', xs') W8.heap.size (by rw [hW9, hst]; exact heap_alloc_last _ _) (by omega)
  rw [hW9] at hrun
  have HRUN := Lib.hid hrun
  have HO5 := Lib.hid ho5
  have HC5 := Lib.hid hc5
  have HU9 := Lib.hid hu9
  have HX9 := Lib.hid hx9
  clear hrun ho5 hc5 hu9 hx9 hW9 hst hye
  go_wp2_with (first
    | refine wpList_oneR rfl (.tmp 177) rfl f' t' st (by rfl) ?_
    | (at_builtin; refine wpList_run_append rfl _ _ 34 rfl _ _ rfl rfl 34 rfl HRUN.out ?_))
  go_ret2
  exact ⟨_, _, lv1, _, rfl, (HN1.out.up HU9.out).ref HX9.out HC5.out, HO5.out, ((HCW.out.then HU9.out (fun i hi => hi.elim)).mono (fun i _ hi => (hi.imp id .inl : i = p ∨ lv.ownBlock = some i ∨ (Value.slice (some ⟨gx, 0, none⟩) ls.length cx).ownBlock = some i))).then HC5.out (fun i hi => .inl (.inr (.inr hi))), HLB.out⟩
set_option maxRecDepth 100000 in
set_option maxHeartbeats 4000000 in
theorem stepG4bo (w : World) (p : Nat) (lv : Value) (ds : List Value) (ls : List Let) (sent : Int) (ms : List Let) (h : NetAt w p lv ds ms sent) (hn : ms.length < 1024) (hnl : ls.length < 1024) (hx : ∀ j, j < ms.length → (ms.getD j default).2.2.length ≤ 1000000) (xv : Value) (hX : XAt w 0 xv ls) (a f t : Int) (d : Value) (xs : List Int) (hd : SlB w d xs) (hnx : xs.length ≤ 1000) (ha : 0 ≤ a) (ha2 : a < ls.length) (hm : atI ms a = false) :
    Calls Try.prog 15 #[.pointer (some ⟨p, 0, none⟩), xv, .agg #[.int .i64 4, .int .i64 a, .int .i64 f, .int .i64 t, d]] w (StepG p lv xv ls (stepI ms 4 a f t xs) (sent + stepS 4 f t) w) := by
  obtain ⟨Ax, cx, rfl⟩ := own_shape hX
  obtain ⟨A, c, rfl, hl1, hl2⟩ := hd.shape
  rw [stepS_not (show (4 : Int) ≠ 1 by decide), Int.add_zero]
  obtain ⟨W7, hW7⟩ : ∃ W, W = w.alloc (.cells #[.int .i64 4, .int .i64 a, .int .i64 f, .int .i64 t, .slice A xs.length c] 36) := ⟨_, rfl⟩
  have hu7 : Up w W7 := by rw [hW7]; exact (Chg.refl _ w).alloc _
  have ho7 : W7.heap[w.heap.size]? = some (.cells #[.int .i64 4, .int .i64 a, .int .i64 f, .int .i64 t, .slice A xs.length c] 36 (0, 0)) := by rw [hW7]; exact heap_alloc_last w _
  have hlt : w.heap.size < W7.heap.size := (Array.getElem?_eq_some_iff.1 ho7).1
  have hout : ¬ (w.heap.size = p ∨ lv.ownBlock = some w.heap.size) := fun hs => by
    rcases hs with hs | hs
    · have := (Array.getElem?_eq_some_iff.1 h.obj).1; omega
    · have := own_lt h.row _ hs; omega
  have e0 : stepI ms 4 a f t xs = ms := stepI_not (by decide) hm
  have hcl := twice_any W7 p lv ds ms sent a (h.up hu7) hx
  rw [twice_not hm] at hcl
  have HC := Lib.hid hcl
  clear hcl
  have HN := Lib.hid h
  have HX := Lib.hid hX
  have HD := Lib.hid hd
  have HU7 := Lib.hid hu7
  have HO7 := Lib.hid ho7
  have HW7 := Lib.hid hW7
  have HM := Lib.hid hm
  have HE0 := Lib.hid e0
  have HOUT := Lib.hid hout
  clear h hX hd hu7 ho7 hW7 hm hx e0 hout hlt
  rw [HE0.out]
  go_enter Try.func15, Try.ntmps15
  go_wp2_with fail
  rw [← HW7.out]
  refine HC.out.mono ?_
  rintro e W8 ⟨rfl, hr⟩
  have hu8 := (hr.resolve_right (fun h => absurd h.1 (by decide))).2
  clear hr
  have hcw : Chg (fun i => i = p ∨ lv.ownBlock = some i) w W8 := (HU7.out.trans hu8).mono (fun _ _ h => h.elim)
  have ho8 := hu8.heap HO7.out (fun h => h)
  have hx8 := HX.out.net HN.out hcw
  have HN1 := Lib.hid (HN.out.up (HU7.out.trans hu8))
  have HLB := Lib.hid (show ∀ g, lv.ownBlock = some g → lv.ownBlock = some g ∨ w.heap.size ≤ g from fun g hg => .inl hg)
  have HCW := Lib.hid hcw
  have HX8 := Lib.hid hx8
  have HO8 := Lib.hid ho8
  clear hcw ho8 hx8 hu8
  have o1 := cell_of_row W8 w.heap.size 1 _ _ _ HO8.out
  obtain ⟨k, rfl⟩ : ∃ k : Nat, a = k := ⟨a.toNat, by omega⟩
  have hk : k < ls.length := by omega
  obtain ⟨gx, rfl⟩ : ∃ g, Ax = some ⟨g, 0, none⟩ := by
    rcases HX8.out.2 with ⟨h0, hz⟩ | ⟨g, cap, cur, he, _⟩
    · omega
    · injection he with e1; exact ⟨g, e1⟩
  obtain ⟨s0, s1, s2⟩ := HX8.out.cells k hk
  obtain ⟨y, hye⟩ : ∃ y, ls.getD k default = y := ⟨_, rfl⟩
  rw [hye] at s0 s1 s2
  obtain ⟨f', t', xs'⟩ := y
  dsimp only at s0 s1 s2
  obtain ⟨st, hst⟩ : ∃ s, strOfNums xs' = s := ⟨_, rfl⟩
  rw [hst] at s2
  have hlen : ((ls.length : Int) == 1024) = false := by rw [beq_eq_false_iff_ne]; omega
  obtain ⟨W9, hW9⟩ : ∃ W, W = W8.alloc (.cells #[.int .i64 f', .int .i64 t', .string st] 49) := ⟨_, rfl⟩
  have hu9 : Up W8 W9 := by rw [hW9]; exact (Chg.refl _ W8).alloc _
  have hx9 : XAt W9 0 (.slice (some ⟨gx, 0, none⟩) ls.length cx) ls := own_chg HX8.out hu9 (fun _ _ h => h)
  obtain ⟨B5, c5, W10, hrun, ho5, hc5⟩ := push_keep W9 0 (Nat.zero_le _) _ _ hx9 (f', t', xs') W8.heap.size (by rw [hW9, hst]; exact heap_alloc_last _ _) (by omega)
  rw [hW9] at hrun
  have HRUN := Lib.hid hrun
  have HO5 := Lib.hid ho5
  have HC5 := Lib.hid hc5
  have HU9 := Lib.hid hu9
  have HX9 := Lib.hid hx9
  clear hrun ho5 hc5 hu9 hx9 hW9 hst hye
  go_wp2_with (first
    | refine wpList_oneR rfl (.tmp 177) rfl f' t' st (by rfl) ?_
    | (at_builtin; refine wpList_run_append rfl _ _ 34 rfl _ _ rfl rfl 34 rfl HRUN.out ?_))
  go_ret2
  exact ⟨_, _, lv, ds, rfl, (HN1.out.up HU9.out).ref HX9.out HC5.out, HO5.out, ((HCW.out.then HU9.out (fun i hi => hi.elim)).mono (fun i _ hi => (hi.imp id .inl : i = p ∨ lv.ownBlock = some i ∨ (Value.slice (some ⟨gx, 0, none⟩) ls.length cx).ownBlock = some i))).then HC5.out (fun i hi => .inl (.inr (.inr hi))), HLB.out⟩
set_option maxRecDepth 100000 in
set_option maxHeartbeats 4000000 in
theorem stepG4ci (w : World) (p : Nat) (lv : Value) (ds : List Value) (ls : List Let) (sent : Int) (ms : List Let) (h : NetAt w p lv ds ms sent) (hn : ms.length < 1024) (hnl : ls.length < 1024) (hx : ∀ j, j < ms.length → (ms.getD j default).2.2.length ≤ 1000000) (xv : Value) (hX : XAt w 0 xv ls) (a f t : Int) (d : Value) (xs : List Int) (hd : SlB w d xs) (hnx : xs.length ≤ 1000) (ha0 : 0 ≤ a) (ha : ¬ a < (ls.length : Int)) (hm : atI ms a = true) :
    Calls Try.prog 15 #[.pointer (some ⟨p, 0, none⟩), xv, .agg #[.int .i64 4, .int .i64 a, .int .i64 f, .int .i64 t, d]] w (StepG p lv xv ls (stepI ms 4 a f t xs) (sent + stepS 4 f t) w) := by
  obtain ⟨Ax, cx, rfl⟩ := own_shape hX
  obtain ⟨A, c, rfl, hl1, hl2⟩ := hd.shape
  rw [stepS_not (show (4 : Int) ≠ 1 by decide), Int.add_zero]
  obtain ⟨W7, hW7⟩ : ∃ W, W = w.alloc (.cells #[.int .i64 4, .int .i64 a, .int .i64 f, .int .i64 t, .slice A xs.length c] 36) := ⟨_, rfl⟩
  have hu7 : Up w W7 := by rw [hW7]; exact (Chg.refl _ w).alloc _
  have ho7 : W7.heap[w.heap.size]? = some (.cells #[.int .i64 4, .int .i64 a, .int .i64 f, .int .i64 t, .slice A xs.length c] 36 (0, 0)) := by rw [hW7]; exact heap_alloc_last w _
  have hlt : w.heap.size < W7.heap.size := (Array.getElem?_eq_some_iff.1 ho7).1
  have hout : ¬ (w.heap.size = p ∨ lv.ownBlock = some w.heap.size) := fun hs => by
    rcases hs with hs | hs
    · have := (Array.getElem?_eq_some_iff.1 h.obj).1; omega
    · have := own_lt h.row _ hs; omega
  have e0 : stepI ms 4 a f t xs = ms ++ [ms.getD a.toNat default] := by unfold stepI; rw [if_neg (by decide), if_neg (by decide), if_neg (by decide), if_pos rfl, if_pos hm]
  have hcl := twice_any W7 p lv ds ms sent a (h.up hu7) hx
  rw [twice_in hm hn] at hcl
  have HC := Lib.hid hcl
  clear hcl
  have HN := Lib.hid h
  have HX := Lib.hid hX
  have HD := Lib.hid hd
  have HU7 := Lib.hid hu7
  have HO7 := Lib.hid ho7
  have HW7 := Lib.hid hW7
  have HM := Lib.hid hm
  have HE0 := Lib.hid e0
  have HOUT := Lib.hid hout
  clear h hX hd hu7 ho7 hW7 hm hx e0 hout hlt
  rw [HE0.out]
  go_enter Try.func15, Try.ntmps15
  go_wp2_with fail
  rw [← HW7.out]
  refine HC.out.mono ?_
  rintro e W8 ⟨rfl, hr⟩
  obtain ⟨_, lv1, d1, hn1, hc1, hb1⟩ := hr.resolve_left (fun h => h.1 rfl)
  clear hr
  have hlb : ∀ g, lv1.ownBlock = some g → lv.ownBlock = some g ∨ w.heap.size ≤ g := fun g hg => (ob_of hb1 g hg).imp id (fun h => Nat.le_trans HU7.out.size h)
  clear hb1
  have hcw : Chg (fun i => i = p ∨ lv.ownBlock = some i) w W8 := (HU7.out.mono (fun _ _ h => h.elim)).then hc1 (fun i hi => .inl hi)
  have ho8 := hc1.heap HO7.out HOUT.out
  have hx8 := HX.out.net HN.out hcw
  have HN1 := Lib.hid hn1
  have HLB := Lib.hid (show ∀ g, lv1.ownBlock = some g → lv.ownBlock = some g ∨ w.heap.size ≤ g from hlb)
  have HCW := Lib.hid hcw
  have HX8 := Lib.hid hx8
  have HO8 := Lib.hid ho8
  clear hcw ho8 hx8 hn1 hlb hc1
  go_wp2_with fail
  go_ret2
  exact ⟨_, _, lv1, _, rfl, HN1.out, HX8.out, (HCW.out).mono (fun i _ hi => hi.imp id .inl), HLB.out⟩
set_option maxRecDepth 100000 in
set_option maxHeartbeats 4000000 in
theorem stepG4co (w : World) (p : Nat) (lv : Value) (ds : List Value) (ls : List Let) (sent : Int) (ms : List Let) (h : NetAt w p lv ds ms sent) (hn : ms.length < 1024) (hnl : ls.length < 1024) (hx : ∀ j, j < ms.length → (ms.getD j default).2.2.length ≤ 1000000) (xv : Value) (hX : XAt w 0 xv ls) (a f t : Int) (d : Value) (xs : List Int) (hd : SlB w d xs) (hnx : xs.length ≤ 1000) (ha0 : 0 ≤ a) (ha : ¬ a < (ls.length : Int)) (hm : atI ms a = false) :
    Calls Try.prog 15 #[.pointer (some ⟨p, 0, none⟩), xv, .agg #[.int .i64 4, .int .i64 a, .int .i64 f, .int .i64 t, d]] w (StepG p lv xv ls (stepI ms 4 a f t xs) (sent + stepS 4 f t) w) := by
  obtain ⟨Ax, cx, rfl⟩ := own_shape hX
  obtain ⟨A, c, rfl, hl1, hl2⟩ := hd.shape
  rw [stepS_not (show (4 : Int) ≠ 1 by decide), Int.add_zero]
  obtain ⟨W7, hW7⟩ : ∃ W, W = w.alloc (.cells #[.int .i64 4, .int .i64 a, .int .i64 f, .int .i64 t, .slice A xs.length c] 36) := ⟨_, rfl⟩
  have hu7 : Up w W7 := by rw [hW7]; exact (Chg.refl _ w).alloc _
  have ho7 : W7.heap[w.heap.size]? = some (.cells #[.int .i64 4, .int .i64 a, .int .i64 f, .int .i64 t, .slice A xs.length c] 36 (0, 0)) := by rw [hW7]; exact heap_alloc_last w _
  have hlt : w.heap.size < W7.heap.size := (Array.getElem?_eq_some_iff.1 ho7).1
  have hout : ¬ (w.heap.size = p ∨ lv.ownBlock = some w.heap.size) := fun hs => by
    rcases hs with hs | hs
    · have := (Array.getElem?_eq_some_iff.1 h.obj).1; omega
    · have := own_lt h.row _ hs; omega
  have e0 : stepI ms 4 a f t xs = ms := stepI_not (by decide) hm
  have hcl := twice_any W7 p lv ds ms sent a (h.up hu7) hx
  rw [twice_not hm] at hcl
  have HC := Lib.hid hcl
  clear hcl
  have HN := Lib.hid h
  have HX := Lib.hid hX
  have HD := Lib.hid hd
  have HU7 := Lib.hid hu7
  have HO7 := Lib.hid ho7
  have HW7 := Lib.hid hW7
  have HM := Lib.hid hm
  have HE0 := Lib.hid e0
  have HOUT := Lib.hid hout
  clear h hX hd hu7 ho7 hW7 hm hx e0 hout hlt
  rw [HE0.out]
  go_enter Try.func15, Try.ntmps15
  go_wp2_with fail
  rw [← HW7.out]
  refine HC.out.mono ?_
  rintro e W8 ⟨rfl, hr⟩
  have hu8 := (hr.resolve_right (fun h => absurd h.1 (by decide))).2
  clear hr
  have hcw : Chg (fun i => i = p ∨ lv.ownBlock = some i) w W8 := (HU7.out.trans hu8).mono (fun _ _ h => h.elim)
  have ho8 := hu8.heap HO7.out (fun h => h)
  have hx8 := HX.out.net HN.out hcw
  have HN1 := Lib.hid (HN.out.up (HU7.out.trans hu8))
  have HLB := Lib.hid (show ∀ g, lv.ownBlock = some g → lv.ownBlock = some g ∨ w.heap.size ≤ g from fun g hg => .inl hg)
  have HCW := Lib.hid hcw
  have HX8 := Lib.hid hx8
  have HO8 := Lib.hid ho8
  clear hcw ho8 hx8 hu8
  go_wp2_with fail
  go_ret2
  exact ⟨_, _, lv, ds, rfl, HN1.out, HX8.out, (HCW.out).mono (fun i _ hi => hi.imp id .inl), HLB.out⟩
set_option maxRecDepth 100000 in
set_option maxHeartbeats 4000000 in
theorem stepG5ai (w : World) (p : Nat) (lv : Value) (ds : List Value) (ls : List Let) (sent : Int) (ms : List Let) (h : NetAt w p lv ds ms sent) (hn : ms.length < 1024) (hnl : ls.length < 1024) (hx : ∀ j, j < ms.length → (ms.getD j default).2.2.length ≤ 1000000) (xv : Value) (hX : XAt w 0 xv ls) (a f t : Int) (d : Value) (xs : List Int) (hd : SlB w d xs) (hnx : xs.length ≤ 1000) (ha : a < 0) (hm : atI ms a = true) :
    Calls Try.prog 15 #[.pointer (some ⟨p, 0, none⟩), xv, .agg #[.int .i64 5, .int .i64 a, .int .i64 f, .int .i64 t, d]] w (StepG p lv xv ls (stepI ms 5 a f t xs) (sent + stepS 5 f t) w) := by
  obtain ⟨Ax, cx, rfl⟩ := own_shape hX
  obtain ⟨A, c, rfl, hl1, hl2⟩ := hd.shape
  rw [stepS_not (show (5 : Int) ≠ 1 by decide), Int.add_zero]
  obtain ⟨W7, hW7⟩ : ∃ W, W = w.alloc (.cells #[.int .i64 5, .int .i64 a, .int .i64 f, .int .i64 t, .slice A xs.length c] 36) := ⟨_, rfl⟩
  have hu7 : Up w W7 := by rw [hW7]; exact (Chg.refl _ w).alloc _
  have ho7 : W7.heap[w.heap.size]? = some (.cells #[.int .i64 5, .int .i64 a, .int .i64 f, .int .i64 t, .slice A xs.length c] 36 (0, 0)) := by rw [hW7]; exact heap_alloc_last w _
  have hlt : w.heap.size < W7.heap.size := (Array.getElem?_eq_some_iff.1 ho7).1
  have hout : ¬ (w.heap.size = p ∨ lv.ownBlock = some w.heap.size) := fun hs => by
    rcases hs with hs | hs
    · have := (Array.getElem?_eq_some_iff.1 h.obj).1; omega
    · have := own_lt h.row _ hs; omega
  have e0 : stepI ms 5 a f t xs = ms.set a.toNat ((ms.getD a.toNat default).1, (ms.getD a.toNat default).2.1, xs) := by unfold stepI; rw [if_neg (by decide), if_neg (by decide), if_neg (by decide), if_neg (by decide), if_pos rfl, if_pos hm]
  have hcl := bend_any W7 p lv ds ms sent a (h.up hu7) _ xs (Src.chg hd hu7 (fun _ _ _ h => h) (by decide)) (by omega)
  rw [hm] at hcl
  rw [if_pos rfl] at hcl
  have HC := Lib.hid hcl
  clear hcl
  have HN := Lib.hid h
  have HX := Lib.hid hX
  have HD := Lib.hid hd
  have HU7 := Lib.hid hu7
  have HO7 := Lib.hid ho7
  have HW7 := Lib.hid hW7
  have HM := Lib.hid hm
  have HE0 := Lib.hid e0
  have HOUT := Lib.hid hout
  clear h hX hd hu7 ho7 hW7 hm hx e0 hout hlt
  rw [HE0.out]
  go_enter Try.func15, Try.ntmps15
  go_wp2_with fail
  rw [← HW7.out]
  refine HC.out.mono ?_
  rintro e W8 ⟨rfl, hr⟩
  obtain ⟨_, d1, hn1, hc0⟩ := hr.resolve_left (fun h => absurd h.1 (by decide))
  clear hr
  have hc1 : Chg (fun i => i = p ∨ lv.ownBlock = some i) W7 W8 := hc0.mono (fun i _ hi => .inr hi)
  have hlb : ∀ g, lv.ownBlock = some g → lv.ownBlock = some g ∨ w.heap.size ≤ g := fun g hg => .inl hg
  obtain ⟨lv1, hlv1⟩ : ∃ v, v = lv := ⟨_, rfl⟩
  rw [← hlv1] at hn1
  have hlb : ∀ g, lv1.ownBlock = some g → lv.ownBlock = some g ∨ w.heap.size ≤ g := fun g hg => .inl (hlv1 ▸ hg)
  clear hlv1 hc0
  have hcw : Chg (fun i => i = p ∨ lv.ownBlock = some i) w W8 := (HU7.out.mono (fun _ _ h => h.elim)).then hc1 (fun i hi => .inl hi)
  have ho8 := hc1.heap HO7.out HOUT.out
  have hx8 := HX.out.net HN.out hcw
  have HN1 := Lib.hid hn1
  have HLB := Lib.hid (show ∀ g, lv1.ownBlock = some g → lv.ownBlock = some g ∨ w.heap.size ≤ g from hlb)
  have HCW := Lib.hid hcw
  have HX8 := Lib.hid hx8
  have HO8 := Lib.hid ho8
  clear hcw ho8 hx8 hn1 hlb hc1
  go_wp2_with fail
  go_ret2
  exact ⟨_, _, lv1, _, rfl, HN1.out, HX8.out, (HCW.out).mono (fun i _ hi => hi.imp id .inl), HLB.out⟩
set_option maxRecDepth 100000 in
set_option maxHeartbeats 4000000 in
theorem stepG5ao (w : World) (p : Nat) (lv : Value) (ds : List Value) (ls : List Let) (sent : Int) (ms : List Let) (h : NetAt w p lv ds ms sent) (hn : ms.length < 1024) (hnl : ls.length < 1024) (hx : ∀ j, j < ms.length → (ms.getD j default).2.2.length ≤ 1000000) (xv : Value) (hX : XAt w 0 xv ls) (a f t : Int) (d : Value) (xs : List Int) (hd : SlB w d xs) (hnx : xs.length ≤ 1000) (ha : a < 0) (hm : atI ms a = false) :
    Calls Try.prog 15 #[.pointer (some ⟨p, 0, none⟩), xv, .agg #[.int .i64 5, .int .i64 a, .int .i64 f, .int .i64 t, d]] w (StepG p lv xv ls (stepI ms 5 a f t xs) (sent + stepS 5 f t) w) := by
  obtain ⟨Ax, cx, rfl⟩ := own_shape hX
  obtain ⟨A, c, rfl, hl1, hl2⟩ := hd.shape
  rw [stepS_not (show (5 : Int) ≠ 1 by decide), Int.add_zero]
  obtain ⟨W7, hW7⟩ : ∃ W, W = w.alloc (.cells #[.int .i64 5, .int .i64 a, .int .i64 f, .int .i64 t, .slice A xs.length c] 36) := ⟨_, rfl⟩
  have hu7 : Up w W7 := by rw [hW7]; exact (Chg.refl _ w).alloc _
  have ho7 : W7.heap[w.heap.size]? = some (.cells #[.int .i64 5, .int .i64 a, .int .i64 f, .int .i64 t, .slice A xs.length c] 36 (0, 0)) := by rw [hW7]; exact heap_alloc_last w _
  have hlt : w.heap.size < W7.heap.size := (Array.getElem?_eq_some_iff.1 ho7).1
  have hout : ¬ (w.heap.size = p ∨ lv.ownBlock = some w.heap.size) := fun hs => by
    rcases hs with hs | hs
    · have := (Array.getElem?_eq_some_iff.1 h.obj).1; omega
    · have := own_lt h.row _ hs; omega
  have e0 : stepI ms 5 a f t xs = ms := stepI_not (by decide) hm
  have hcl := bend_any W7 p lv ds ms sent a (h.up hu7) _ xs (Src.chg hd hu7 (fun _ _ _ h => h) (by decide)) (by omega)
  rw [hm] at hcl
  rw [if_neg (show ¬ (false = true) by decide)] at hcl
  have HC := Lib.hid hcl
  clear hcl
  have HN := Lib.hid h
  have HX := Lib.hid hX
  have HD := Lib.hid hd
  have HU7 := Lib.hid hu7
  have HO7 := Lib.hid ho7
  have HW7 := Lib.hid hW7
  have HM := Lib.hid hm
  have HE0 := Lib.hid e0
  have HOUT := Lib.hid hout
  clear h hX hd hu7 ho7 hW7 hm hx e0 hout hlt
  rw [HE0.out]
  go_enter Try.func15, Try.ntmps15
  go_wp2_with fail
  rw [← HW7.out]
  refine HC.out.mono ?_
  rintro e W8 ⟨rfl, hr⟩
  have hu8 := (hr.resolve_right (fun h => absurd h.1 (by decide))).2
  clear hr
  have hcw : Chg (fun i => i = p ∨ lv.ownBlock = some i) w W8 := (HU7.out.trans hu8).mono (fun _ _ h => h.elim)
  have ho8 := hu8.heap HO7.out (fun h => h)
  have hx8 := HX.out.net HN.out hcw
  have HN1 := Lib.hid (HN.out.up (HU7.out.trans hu8))
  have HLB := Lib.hid (show ∀ g, lv.ownBlock = some g → lv.ownBlock = some g ∨ w.heap.size ≤ g from fun g hg => .inl hg)
  have HCW := Lib.hid hcw
  have HX8 := Lib.hid hx8
  have HO8 := Lib.hid ho8
  clear hcw ho8 hx8 hu8
  go_wp2_with fail
  go_ret2
  exact ⟨_, _, lv, ds, rfl, HN1.out, HX8.out, (HCW.out).mono (fun i _ hi => hi.imp id .inl), HLB.out⟩
set_option maxRecDepth 100000 in
set_option maxHeartbeats 4000000 in
theorem stepG5bi (w : World) (p : Nat) (lv : Value) (ds : List Value) (ls : List Let) (sent : Int) (ms : List Let) (h : NetAt w p lv ds ms sent) (hn : ms.length < 1024) (hnl : ls.length < 1024) (hx : ∀ j, j < ms.length → (ms.getD j default).2.2.length ≤ 1000000) (xv : Value) (hX : XAt w 0 xv ls) (a f t : Int) (d : Value) (xs : List Int) (hd : SlB w d xs) (hnx : xs.length ≤ 1000) (ha : 0 ≤ a) (ha2 : a < ls.length) (hm : atI ms a = true) (hdl : ∀ b, Value.blk d = some b → 0 < xs.length → b ≠ p ∧ lv.ownBlock ≠ some b) :
    Calls Try.prog 15 #[.pointer (some ⟨p, 0, none⟩), xv, .agg #[.int .i64 5, .int .i64 a, .int .i64 f, .int .i64 t, d]] w (StepG p lv xv ls (stepI ms 5 a f t xs) (sent + stepS 5 f t) w) := by
  obtain ⟨Ax, cx, rfl⟩ := own_shape hX
  obtain ⟨A, c, rfl, hl1, hl2⟩ := hd.shape
  rw [stepS_not (show (5 : Int) ≠ 1 by decide), Int.add_zero]
  obtain ⟨W7, hW7⟩ : ∃ W, W = w.alloc (.cells #[.int .i64 5, .int .i64 a, .int .i64 f, .int .i64 t, .slice A xs.length c] 36) := ⟨_, rfl⟩
  have hu7 : Up w W7 := by rw [hW7]; exact (Chg.refl _ w).alloc _
  have ho7 : W7.heap[w.heap.size]? = some (.cells #[.int .i64 5, .int .i64 a, .int .i64 f, .int .i64 t, .slice A xs.length c] 36 (0, 0)) := by rw [hW7]; exact heap_alloc_last w _
  have hlt : w.heap.size < W7.heap.size := (Array.getElem?_eq_some_iff.1 ho7).1
  have hout : ¬ (w.heap.size = p ∨ lv.ownBlock = some w.heap.size) := fun hs => by
    rcases hs with hs | hs
    · have := (Array.getElem?_eq_some_iff.1 h.obj).1; omega
    · have := own_lt h.row _ hs; omega
  have e0 : stepI ms 5 a f t xs = ms.set a.toNat ((ms.getD a.toNat default).1, (ms.getD a.toNat default).2.1, xs) := by unfold stepI; rw [if_neg (by decide), if_neg (by decide), if_neg (by decide), if_neg (by decide), if_pos rfl, if_pos hm]
  have hcl := bend_any W7 p lv ds ms sent a (h.up hu7) _ xs (Src.chg hd hu7 (fun _ _ _ h => h) (by decide)) (by omega)
  rw [hm] at hcl
  rw [if_pos rfl] at hcl
  have HC := Lib.hid hcl
  clear hcl
  have HN := Lib.hid h
  have HX := Lib.hid hX
  have HD := Lib.hid hd
  have HU7 := Lib.hid hu7
  have HO7 := Lib.hid ho7
  have HW7 := Lib.hid hW7
  have HM := Lib.hid hm
  have HE0 := Lib.hid e0
  have HOUT := Lib.hid hout
  clear h hX hd hu7 ho7 hW7 hm hx e0 hout hlt
  rw [HE0.out]
  go_enter Try.func15, Try.ntmps15
  go_wp2_with fail
  rw [← HW7.out]
  refine HC.out.mono ?_
  rintro e W8 ⟨rfl, hr⟩
  obtain ⟨_, d1, hn1, hc0⟩ := hr.resolve_left (fun h => absurd h.1 (by decide))
  clear hr
  have hc1 : Chg (fun i => i = p ∨ lv.ownBlock = some i) W7 W8 := hc0.mono (fun i _ hi => .inr hi)
  have hlb : ∀ g, lv.ownBlock = some g → lv.ownBlock = some g ∨ w.heap.size ≤ g := fun g hg => .inl hg
  obtain ⟨lv1, hlv1⟩ : ∃ v, v = lv := ⟨_, rfl⟩
  rw [← hlv1] at hn1
  have hlb : ∀ g, lv1.ownBlock = some g → lv.ownBlock = some g ∨ w.heap.size ≤ g := fun g hg => .inl (hlv1 ▸ hg)
  clear hlv1 hc0
  have hcw : Chg (fun i => i = p ∨ lv.ownBlock = some i) w W8 := (HU7.out.mono (fun _ _ h => h.elim)).then hc1 (fun i hi => .inl hi)
  have ho8 := hc1.heap HO7.out HOUT.out
  have hx8 := HX.out.net HN.out hcw
  have HN1 := Lib.hid hn1
  have HLB := Lib.hid (show ∀ g, lv1.ownBlock = some g → lv.ownBlock = some g ∨ w.heap.size ≤ g from hlb)
  have HCW := Lib.hid hcw
  have HX8 := Lib.hid hx8
  have HO8 := Lib.hid ho8
  clear hcw ho8 hx8 hn1 hlb hc1
  have o1' := cell_of_row W8 w.heap.size 1 _ _ _ HO8.out
  obtain ⟨k, rfl⟩ : ∃ k : Nat, a = k := ⟨a.toNat, by omega⟩
  have hk : k < ls.length := by omega
  obtain ⟨B9, c9, W9, hrun, hx9, hu9⟩ := app_emptyR W8 0 _ ls HX8.out (by omega)
  have ho9 := hu9.heap HO8.out (fun h => h)
  have o1 := cell_of_row W9 w.heap.size 1 _ _ _ ho9
  have o4 := cell_of_row W9 w.heap.size 4 _ _ _ ho9
  obtain ⟨gx, rfl⟩ : ∃ g, B9 = some ⟨g, 0, none⟩ := by
    rcases hx9.2 with ⟨h0, hz⟩ | ⟨g, cap, cur, he, _⟩
    · omega
    · injection he with e1; exact ⟨g, e1⟩
  obtain ⟨s0, s1, s2⟩ := hx9.cells k hk
  have fz := World.ownsRow.frozenAt hx9 (k * 3 + 2)
  have hcw9 : Chg (fun i => i = p ∨ lv.ownBlock = some i) w W9 := HCW.out.then hu9 (fun i hi => hi.elim)
  have hstr := sl_string (Src.chg HD.out hcw9 (fun b hb h0 hs => hs.elim (hdl b hb h0).1 (hdl b hb h0).2) (by decide))
  obtain ⟨st, hst⟩ : ∃ s, strOfNums xs = s := ⟨_, rfl⟩
  rw [hst] at hstr
  have HRUN := Lib.hid hrun
  have HX9 := Lib.hid hx9
  have HU9 := Lib.hid hu9
  clear hrun hx9 hu9 hcw9 hst hdl ho9 o1'
  go_wp2_with (at_builtin; refine wpList_run_append rfl _ _ 34 rfl _ _ rfl rfl 34 rfl HRUN.out ?_)
  go_ret2
  have hfz : Chg (fun _ => False) W8 (W9.setCell ⟨gx, k * 3 + 2, none⟩ (.string st)) := HU9.out.setCell _ (.inr (own_ge HX9.out gx rfl)) _
  exact ⟨_, _, lv1, _, rfl, HN1.out.up hfz, own_chg HX8.out hfz (fun _ _ h => h), ((HCW.out.then hfz (fun i hi => hi.elim))).mono (fun i _ hi => hi.imp id .inl), HLB.out⟩
set_option maxRecDepth 100000 in
set_option maxHeartbeats 4000000 in
theorem stepG5bo (w : World) (p : Nat) (lv : Value) (ds : List Value) (ls : List Let) (sent : Int) (ms : List Let) (h : NetAt w p lv ds ms sent) (hn : ms.length < 1024) (hnl : ls.length < 1024) (hx : ∀ j, j < ms.length → (ms.getD j default).2.2.length ≤ 1000000) (xv : Value) (hX : XAt w 0 xv ls) (a f t : Int) (d : Value) (xs : List Int) (hd : SlB w d xs) (hnx : xs.length ≤ 1000) (ha : 0 ≤ a) (ha2 : a < ls.length) (hm : atI ms a = false) (hdl : ∀ b, Value.blk d = some b → 0 < xs.length → b ≠ p ∧ lv.ownBlock ≠ some b) :
    Calls Try.prog 15 #[.pointer (some ⟨p, 0, none⟩), xv, .agg #[.int .i64 5, .int .i64 a, .int .i64 f, .int .i64 t, d]] w (StepG p lv xv ls (stepI ms 5 a f t xs) (sent + stepS 5 f t) w) := by
  obtain ⟨Ax, cx, rfl⟩ := own_shape hX
  obtain ⟨A, c, rfl, hl1, hl2⟩ := hd.shape
  rw [stepS_not (show (5 : Int) ≠ 1 by decide), Int.add_zero]
  obtain ⟨W7, hW7⟩ : ∃ W, W = w.alloc (.cells #[.int .i64 5, .int .i64 a, .int .i64 f, .int .i64 t, .slice A xs.length c] 36) := ⟨_, rfl⟩
  have hu7 : Up w W7 := by rw [hW7]; exact (Chg.refl _ w).alloc _
  have ho7 : W7.heap[w.heap.size]? = some (.cells #[.int .i64 5, .int .i64 a, .int .i64 f, .int .i64 t, .slice A xs.length c] 36 (0, 0)) := by rw [hW7]; exact heap_alloc_last w _
  have hlt : w.heap.size < W7.heap.size := (Array.getElem?_eq_some_iff.1 ho7).1
  have hout : ¬ (w.heap.size = p ∨ lv.ownBlock = some w.heap.size) := fun hs => by
    rcases hs with hs | hs
    · have := (Array.getElem?_eq_some_iff.1 h.obj).1; omega
    · have := own_lt h.row _ hs; omega
  have e0 : stepI ms 5 a f t xs = ms := stepI_not (by decide) hm
  have hcl := bend_any W7 p lv ds ms sent a (h.up hu7) _ xs (Src.chg hd hu7 (fun _ _ _ h => h) (by decide)) (by omega)
  rw [hm] at hcl
  rw [if_neg (show ¬ (false = true) by decide)] at hcl
  have HC := Lib.hid hcl
  clear hcl
  have HN := Lib.hid h
  have HX := Lib.hid hX
  have HD := Lib.hid hd
  have HU7 := Lib.hid hu7
  have HO7 := Lib.hid ho7
  have HW7 := Lib.hid hW7
  have HM := Lib.hid hm
  have HE0 := Lib.hid e0
  have HOUT := Lib.hid hout
  clear h hX hd hu7 ho7 hW7 hm hx e0 hout hlt
  rw [HE0.out]
  go_enter Try.func15, Try.ntmps15
  go_wp2_with fail
  rw [← HW7.out]
  refine HC.out.mono ?_
  rintro e W8 ⟨rfl, hr⟩
  have hu8 := (hr.resolve_right (fun h => absurd h.1 (by decide))).2
  clear hr
  have hcw : Chg (fun i => i = p ∨ lv.ownBlock = some i) w W8 := (HU7.out.trans hu8).mono (fun _ _ h => h.elim)
  have ho8 := hu8.heap HO7.out (fun h => h)
  have hx8 := HX.out.net HN.out hcw
  have HN1 := Lib.hid (HN.out.up (HU7.out.trans hu8))
  have HLB := Lib.hid (show ∀ g, lv.ownBlock = some g → lv.ownBlock = some g ∨ w.heap.size ≤ g from fun g hg => .inl hg)
  have HCW := Lib.hid hcw
  have HX8 := Lib.hid hx8
  have HO8 := Lib.hid ho8
  clear hcw ho8 hx8 hu8
  have o1' := cell_of_row W8 w.heap.size 1 _ _ _ HO8.out
  obtain ⟨k, rfl⟩ : ∃ k : Nat, a = k := ⟨a.toNat, by omega⟩
  have hk : k < ls.length := by omega
  obtain ⟨B9, c9, W9, hrun, hx9, hu9⟩ := app_emptyR W8 0 _ ls HX8.out (by omega)
  have ho9 := hu9.heap HO8.out (fun h => h)
  have o1 := cell_of_row W9 w.heap.size 1 _ _ _ ho9
  have o4 := cell_of_row W9 w.heap.size 4 _ _ _ ho9
  obtain ⟨gx, rfl⟩ : ∃ g, B9 = some ⟨g, 0, none⟩ := by
    rcases hx9.2 with ⟨h0, hz⟩ | ⟨g, cap, cur, he, _⟩
    · omega
    · injection he with e1; exact ⟨g, e1⟩
  obtain ⟨s0, s1, s2⟩ := hx9.cells k hk
  have fz := World.ownsRow.frozenAt hx9 (k * 3 + 2)
  have hcw9 : Chg (fun i => i = p ∨ lv.ownBlock = some i) w W9 := HCW.out.then hu9 (fun i hi => hi.elim)
  have hstr := sl_string (Src.chg HD.out hcw9 (fun b hb h0 hs => hs.elim (hdl b hb h0).1 (hdl b hb h0).2) (by decide))
  obtain ⟨st, hst⟩ : ∃ s, strOfNums xs = s := ⟨_, rfl⟩
  rw [hst] at hstr
  have HRUN := Lib.hid hrun
  have HX9 := Lib.hid hx9
  have HU9 := Lib.hid hu9
  clear hrun hx9 hu9 hcw9 hst hdl ho9 o1'
  go_wp2_with (at_builtin; refine wpList_run_append rfl _ _ 34 rfl _ _ rfl rfl 34 rfl HRUN.out ?_)
  go_ret2
  have hfz : Chg (fun _ => False) W8 (W9.setCell ⟨gx, k * 3 + 2, none⟩ (.string st)) := HU9.out.setCell _ (.inr (own_ge HX9.out gx rfl)) _
  exact ⟨_, _, lv, ds, rfl, HN1.out.up hfz, own_chg HX8.out hfz (fun _ _ h => h), ((HCW.out.then hfz (fun i hi => hi.elim))).mono (fun i _ hi => hi.imp id .inl), HLB.out⟩
set_option maxRecDepth 100000 in
set_option maxHeartbeats 4000000 in
theorem stepG5ci (w : World) (p : Nat) (lv : Value) (ds : List Value) (ls : List Let) (sent : Int) (ms : List Let) (h : NetAt w p lv ds ms sent) (hn : ms.length < 1024) (hnl : ls.length < 1024) (hx : ∀ j, j < ms.length → (ms.getD j default).2.2.length ≤ 1000000) (xv : Value) (hX : XAt w 0 xv ls) (a f t : Int) (d : Value) (xs : List Int) (hd : SlB w d xs) (hnx : xs.length ≤ 1000) (ha0 : 0 ≤ a) (ha : ¬ a < (ls.length : Int)) (hm : atI ms a = true) :
    Calls Try.prog 15 #[.pointer (some ⟨p, 0, none⟩), xv, .agg #[.int .i64 5, .int .i64 a, .int .i64 f, .int .i64 t, d]] w (StepG p lv xv ls (stepI ms 5 a f t xs) (sent + stepS 5 f t) w) := by
  obtain ⟨Ax, cx, rfl⟩ := own_shape hX
  obtain ⟨A, c, rfl, hl1, hl2⟩ := hd.shape
  rw [stepS_not (show (5 : Int) ≠ 1 by decide), Int.add_zero]
  obtain ⟨W7, hW7⟩ : ∃ W, W = w.alloc (.cells #[.int .i64 5, .int .i64 a, .int .i64 f, .int .i64 t, .slice A xs.length c] 36) := ⟨_, rfl⟩
  have hu7 : Up w W7 := by rw [hW7]; exact (Chg.refl _ w).alloc _
  have ho7 : W7.heap[w.heap.size]? = some (.cells #[.int .i64 5, .int .i64 a, .int .i64 f, .int .i64 t, .slice A xs.length c] 36 (0, 0)) := by rw [hW7]; exact heap_alloc_last w _
  have hlt : w.heap.size < W7.heap.size := (Array.getElem?_eq_some_iff.1 ho7).1
  have hout : ¬ (w.heap.size = p ∨ lv.ownBlock = some w.heap.size) := fun hs => by
    rcases hs with hs | hs
    · have := (Array.getElem?_eq_some_iff.1 h.obj).1; omega
    · have := own_lt h.row _ hs; omega
  have e0 : stepI ms 5 a f t xs = ms.set a.toNat ((ms.getD a.toNat default).1, (ms.getD a.toNat default).2.1, xs) := by unfold stepI; rw [if_neg (by decide), if_neg (by decide), if_neg (by decide), if_neg (by decide), if_pos rfl, if_pos hm]
  have hcl := bend_any W7 p lv ds ms sent a (h.up hu7) _ xs (Src.chg hd hu7 (fun _ _ _ h => h) (by decide)) (by omega)
  rw [hm] at hcl
  rw [if_pos rfl] at hcl
  have HC := Lib.hid hcl
  clear hcl
  have HN := Lib.hid h
  have HX := Lib.hid hX
  have HD := Lib.hid hd
  have HU7 := Lib.hid hu7
  have HO7 := Lib.hid ho7
  have HW7 := Lib.hid hW7
  have HM := Lib.hid hm
  have HE0 := Lib.hid e0
  have HOUT := Lib.hid hout
  clear h hX hd hu7 ho7 hW7 hm hx e0 hout hlt
  rw [HE0.out]
  go_enter Try.func15, Try.ntmps15
  go_wp2_with fail
  rw [← HW7.out]
  refine HC.out.mono ?_
  rintro e W8 ⟨rfl, hr⟩
  obtain ⟨_, d1, hn1, hc0⟩ := hr.resolve_left (fun h => absurd h.1 (by decide))
  clear hr
  have hc1 : Chg (fun i => i = p ∨ lv.ownBlock = some i) W7 W8 := hc0.mono (fun i _ hi => .inr hi)
  have hlb : ∀ g, lv.ownBlock = some g → lv.ownBlock = some g ∨ w.heap.size ≤ g := fun g hg => .inl hg
  obtain ⟨lv1, hlv1⟩ : ∃ v, v = lv := ⟨_, rfl⟩
  rw [← hlv1] at hn1
  have hlb : ∀ g, lv1.ownBlock = some g → lv.ownBlock = some g ∨ w.heap.size ≤ g := fun g hg => .inl (hlv1 ▸ hg)
  clear hlv1 hc0
  have hcw : Chg (fun i => i = p ∨ lv.ownBlock = some i) w W8 := (HU7.out.mono (fun _ _ h => h.elim)).then hc1 (fun i hi => .inl hi)
  have ho8 := hc1.heap HO7.out HOUT.out
  have hx8 := HX.out.net HN.out hcw
  have HN1 := Lib.hid hn1
  have HLB := Lib.hid (show ∀ g, lv1.ownBlock = some g → lv.ownBlock = some g ∨ w.heap.size ≤ g from hlb)
  have HCW := Lib.hid hcw
  have HX8 := Lib.hid hx8
  have HO8 := Lib.hid ho8
  clear hcw ho8 hx8 hn1 hlb hc1
  go_wp2_with fail
  go_ret2
  exact ⟨_, _, lv1, _, rfl, HN1.out, HX8.out, (HCW.out).mono (fun i _ hi => hi.imp id .inl), HLB.out⟩
set_option maxRecDepth 100000 in
set_option maxHeartbeats 4000000 in
theorem stepG5co (w : World) (p : Nat) (lv : Value) (ds : List Value) (ls : List Let) (sent : Int) (ms : List Let) (h : NetAt w p lv ds ms sent) (hn : ms.length < 1024) (hnl : ls.length < 1024) (hx : ∀ j, j < ms.length → (ms.getD j default).2.2.length ≤ 1000000) (xv : Value) (hX : XAt w 0 xv ls) (a f t : Int) (d : Value) (xs : List Int) (hd : SlB w d xs) (hnx : xs.length ≤ 1000) (ha0 : 0 ≤ a) (ha : ¬ a < (ls.length : Int)) (hm : atI ms a = false) :
    Calls Try.prog 15 #[.pointer (some ⟨p, 0, none⟩), xv, .agg #[.int .i64 5, .int .i64 a, .int .i64 f, .int .i64 t, d]] w (StepG p lv xv ls (stepI ms 5 a f t xs) (sent + stepS 5 f t) w) := by
  obtain ⟨Ax, cx, rfl⟩ := own_shape hX
  obtain ⟨A, c, rfl, hl1, hl2⟩ := hd.shape
  rw [stepS_not (show (5 : Int) ≠ 1 by decide), Int.add_zero]
  obtain ⟨W7, hW7⟩ : ∃ W, W = w.alloc (.cells #[.int .i64 5, .int .i64 a, .int .i64 f, .int .i64 t, .slice A xs.length c] 36) := ⟨_, rfl⟩
  have hu7 : Up w W7 := by rw [hW7]; exact (Chg.refl _ w).alloc _
  have ho7 : W7.heap[w.heap.size]? = some (.cells #[.int .i64 5, .int .i64 a, .int .i64 f, .int .i64 t, .slice A xs.length c] 36 (0, 0)) := by rw [hW7]; exact heap_alloc_last w _
  have hlt : w.heap.size < W7.heap.size := (Array.getElem?_eq_some_iff.1 ho7).1
  have hout : ¬ (w.heap.size = p ∨ lv.ownBlock = some w.heap.size) := fun hs => by
    rcases hs with hs | hs
    · have := (Array.getElem?_eq_some_iff.1 h.obj).1; omega
    · have := own_lt h.row _ hs; omega
  have e0 : stepI ms 5 a f t xs = ms := stepI_not (by decide) hm
  have hcl := bend_any W7 p lv ds ms sent a (h.up hu7) _ xs (Src.chg hd hu7 (fun _ _ _ h => h) (by decide)) (by omega)
  rw [hm] at hcl
  rw [if_neg (show ¬ (false = true) by decide)] at hcl
  have HC := Lib.hid hcl
  clear hcl
  have HN := Lib.hid h
  have HX := Lib.hid hX
  have HD := Lib.hid hd
  have HU7 := Lib.hid hu7
  have HO7 := Lib.hid ho7
  have HW7 := Lib.hid hW7
  have HM := Lib.hid hm
  have HE0 := Lib.hid e0
  have HOUT := Lib.hid hout
  clear h hX hd hu7 ho7 hW7 hm hx e0 hout hlt
  rw [HE0.out]
  go_enter Try.func15, Try.ntmps15
  go_wp2_with fail
  rw [← HW7.out]
  refine HC.out.mono ?_
  rintro e W8 ⟨rfl, hr⟩
  have hu8 := (hr.resolve_right (fun h => absurd h.1 (by decide))).2
  clear hr
  have hcw : Chg (fun i => i = p ∨ lv.ownBlock = some i) w W8 := (HU7.out.trans hu8).mono (fun _ _ h => h.elim)
  have ho8 := hu8.heap HO7.out (fun h => h)
  have hx8 := HX.out.net HN.out hcw
  have HN1 := Lib.hid (HN.out.up (HU7.out.trans hu8))
  have HLB := Lib.hid (show ∀ g, lv.ownBlock = some g → lv.ownBlock = some g ∨ w.heap.size ≤ g from fun g hg => .inl hg)
  have HCW := Lib.hid hcw
  have HX8 := Lib.hid hx8
  have HO8 := Lib.hid ho8
  clear hcw ho8 hx8 hu8
  go_wp2_with fail
  go_ret2
  exact ⟨_, _, lv, ds, rfl, HN1.out, HX8.out, (HCW.out).mono (fun i _ hi => hi.imp id .inl), HLB.out⟩
set_option maxRecDepth 100000 in
set_option maxHeartbeats 4000000 in
theorem stepGXa (w : World) (p : Nat) (lv : Value) (ds : List Value) (ls : List Let) (sent : Int) (ms : List Let) (h : NetAt w p lv ds ms sent) (hn : ms.length < 1024) (hnl : ls.length < 1024) (hx : ∀ j, j < ms.length → (ms.getD j default).2.2.length ≤ 1000000) (xv : Value) (hX : XAt w 0 xv ls) (a f t : Int) (d : Value) (xs : List Int) (hd : SlB w d xs) (hnx : xs.length ≤ 1000) (ha : a < 0) (kd : Int) (h1 : kd ≠ 1) (h2 : kd ≠ 2) (h3 : kd ≠ 3) (h4 : kd ≠ 4) (h5 : kd ≠ 5) :
    Calls Try.prog 15 #[.pointer (some ⟨p, 0, none⟩), xv, .agg #[.int .i64 kd, .int .i64 a, .int .i64 f, .int .i64 t, d]] w (StepG p lv xv ls (stepI ms kd a f t xs) (sent + stepS kd f t) w) := by
  obtain ⟨Ax, cx, rfl⟩ := own_shape hX
  obtain ⟨A, c, rfl, hl1, hl2⟩ := hd.shape
  rw [stepS_not h1, Int.add_zero, show stepI ms kd a f t xs = ms by unfold stepI; rw [if_neg h1, if_neg h2, if_neg h3, if_neg h4, if_neg h5]]
  have HN := Lib.hid h
  have HX := Lib.hid hX
  have HU8 := Lib.hid (show Up w (w.alloc (.cells #[.int .i64 kd, .int .i64 a, .int .i64 f, .int .i64 t, .slice A xs.length c] 36)) from (Chg.refl _ w).alloc _)
  clear h hX hd hx
  go_enter Try.func15, Try.ntmps15
  go_wp2_with fail
  go_ret2
  exact ⟨_, _, lv, ds, rfl, HN.out.up HU8.out, own_chg HX.out HU8.out (fun _ _ h => h), HU8.out.mono (fun _ _ h => h.elim), fun _ h => .inl h⟩
set_option maxRecDepth 100000 in
set_option maxHeartbeats 4000000 in
theorem stepGXb (w : World) (p : Nat) (lv : Value) (ds : List Value) (ls : List Let) (sent : Int) (ms : List Let) (h : NetAt w p lv ds ms sent) (hn : ms.length < 1024) (hnl : ls.length < 1024) (hx : ∀ j, j < ms.length → (ms.getD j default).2.2.length ≤ 1000000) (xv : Value) (hX : XAt w 0 xv ls) (a f t : Int) (d : Value) (xs : List Int) (hd : SlB w d xs) (hnx : xs.length ≤ 1000) (ha : 0 ≤ a) (ha2 : a < ls.length) (kd : Int) (h1 : kd ≠ 1) (h2 : kd ≠ 2) (h3 : kd ≠ 3) (h4 : kd ≠ 4) (h5 : kd ≠ 5) :
    Calls Try.prog 15 #[.pointer (some ⟨p, 0, none⟩), xv, .agg #[.int .i64 kd, .int .i64 a, .int .i64 f, .int .i64 t, d]] w (StepG p lv xv ls (stepI ms kd a f t xs) (sent + stepS kd f t) w) := by
  obtain ⟨Ax, cx, rfl⟩ := own_shape hX
  obtain ⟨A, c, rfl, hl1, hl2⟩ := hd.shape
  rw [stepS_not h1, Int.add_zero, show stepI ms kd a f t xs = ms by unfold stepI; rw [if_neg h1, if_neg h2, if_neg h3, if_neg h4, if_neg h5]]
  have HN := Lib.hid h
  have HX := Lib.hid hX
  have HU8 := Lib.hid (show Up w (w.alloc (.cells #[.int .i64 kd, .int .i64 a, .int .i64 f, .int .i64 t, .slice A xs.length c] 36)) from (Chg.refl _ w).alloc _)
  clear h hX hd hx
  go_enter Try.func15, Try.ntmps15
  go_wp2_with fail
  go_ret2
  exact ⟨_, _, lv, ds, rfl, HN.out.up HU8.out, own_chg HX.out HU8.out (fun _ _ h => h), HU8.out.mono (fun _ _ h => h.elim), fun _ h => .inl h⟩
set_option maxRecDepth 100000 in
set_option maxHeartbeats 4000000 in
theorem stepGXc (w : World) (p : Nat) (lv : Value) (ds : List Value) (ls : List Let) (sent : Int) (ms : List Let) (h : NetAt w p lv ds ms sent) (hn : ms.length < 1024) (hnl : ls.length < 1024) (hx : ∀ j, j < ms.length → (ms.getD j default).2.2.length ≤ 1000000) (xv : Value) (hX : XAt w 0 xv ls) (a f t : Int) (d : Value) (xs : List Int) (hd : SlB w d xs) (hnx : xs.length ≤ 1000) (ha0 : 0 ≤ a) (ha : ¬ a < (ls.length : Int)) (kd : Int) (h1 : kd ≠ 1) (h2 : kd ≠ 2) (h3 : kd ≠ 3) (h4 : kd ≠ 4) (h5 : kd ≠ 5) :
    Calls Try.prog 15 #[.pointer (some ⟨p, 0, none⟩), xv, .agg #[.int .i64 kd, .int .i64 a, .int .i64 f, .int .i64 t, d]] w (StepG p lv xv ls (stepI ms kd a f t xs) (sent + stepS kd f t) w) := by
  obtain ⟨Ax, cx, rfl⟩ := own_shape hX
  obtain ⟨A, c, rfl, hl1, hl2⟩ := hd.shape
  rw [stepS_not h1, Int.add_zero, show stepI ms kd a f t xs = ms by unfold stepI; rw [if_neg h1, if_neg h2, if_neg h3, if_neg h4, if_neg h5]]
  have HN := Lib.hid h
  have HX := Lib.hid hX
  have HU8 := Lib.hid (show Up w (w.alloc (.cells #[.int .i64 kd, .int .i64 a, .int .i64 f, .int .i64 t, .slice A xs.length c] 36)) from (Chg.refl _ w).alloc _)
  clear h hX hd hx
  go_enter Try.func15, Try.ntmps15
  go_wp2_with fail
  go_ret2
  exact ⟨_, _, lv, ds, rfl, HN.out.up HU8.out, own_chg HX.out HU8.out (fun _ _ h => h), HU8.out.mono (fun _ _ h => h.elim), fun _ h => .inl h⟩
end Go.Proofs.Ytofmblkmfbioiaa
