/-
  One call to both disks: Flush, Arm, Crash, Tamper and the others, walked.
-/
import Derived.Test.YtkndnlhlglgmfaaE25
namespace Go.Proofs.Ytkndnlhlglgmfaa
open Go.RowKit
set_option maxRecDepth 100000 in
set_option maxHeartbeats 4000000 in
theorem step2 (w : World) (p b q : Nat) (sv s1 s2 : Value) (x : Dk) (k : Nat) (o : OpI) (d1 d2 : Value) (h : StepAt w p b q sv s1 s2 x k o d1 d2) (hkind : o.kind = 2) : Calls Try.prog 41 #[.pointer (some ⟨p, 0, none⟩), .pointer (some ⟨q, 0, none⟩), .agg #[.int .i64 o.kind, .int .i64 o.sec, .int .i64 o.num, d1, d2]] w (SPost w p b q sv s1 s2 ((flushI x).1) (k + 1)) := by
  obtain ⟨A1, cc1, rfl, x1, x2⟩ := h.dat.shape
  obtain ⟨A2, cc2, rfl, y1, y2⟩ := h.lost.shape
  have hu0 : Up w (w.alloc (.cells #[.int .i64 2, .int .i64 o.sec, .int .i64 o.num, .slice A1 o.dat.length cc1, .slice A2 o.lost.length cc2] 31)) := (Chg.refl _ w).alloc _
  have hbox := heap_alloc_last w (.cells #[.int .i64 2, .int .i64 o.sec, .int .i64 o.num, .slice A1 o.dat.length cc1, .slice A2 o.lost.length cc2] 31)
  have hd0 := h.d.up hu0
  have hr0 := h.r.up hu0
  have HH := Lib.hid h
  have HU0 : Hid (Chg (OwnB p b q sv s1 s2) w (w.alloc (.cells #[.int .i64 2, .int .i64 o.sec, .int .i64 o.num, .slice A1 o.dat.length cc1, .slice A2 o.lost.length cc2] 31))) := Lib.hid (hu0.mono (fun _ _ h => h.elim))
  have HF := Lib.hid (vflush _ p b sv x k hd0 h.wf.wf (by have := h.k; omega))
  have HD0 := Lib.hid hd0
  have HR0 := Lib.hid hr0
  clear hu0 hbox hd0 hr0 h
  obtain ⟨r, hr⟩ : ∃ r, (flushI x).2 = r := ⟨_, rfl⟩
  have HRR := Lib.hid hr
  rw [hr] at HF
  clear hr
  go_enter Try.func41, Try.ntmps41
  rw [hkind]
  go_wp2_with fail
  refine HF.out.mono ?_
  rintro e w1 ⟨rfl, hd1, hc1⟩
  have hr1 := HR0.out.keepD HD0.out hc1
  have HXF := Lib.hid (xflush w1 q s1 s2 x k hr1 HH.out.wf (by have := HH.out.k; omega))
  rw [HRR.out] at HXF
  have HD1 := Lib.hid hd1
  have HR1 := Lib.hid hr1
  have HC1 := Lib.hid (HU0.out.then hc1 (fun i hi => .inl (.inl hi)))
  clear hd1 hr1 hc1 HF
  go_wp2_with fail
  refine HXF.out.mono ?_
  rintro e w2 ⟨rfl, hr2, hc2⟩
  have HR2 := Lib.hid hr2
  have HD2 := Lib.hid (HD1.out.keepR HR1.out hc2)
  have HC2 := Lib.hid (HC1.out.then hc2 (fun i hi => .inl (.inr hi)))
  clear hr2 hc2 HXF
  go_wp2_with fail
  go_ret
  exact ⟨by simp, HD2.out, HR2.out, HC2.out⟩
set_option maxRecDepth 100000 in
set_option maxHeartbeats 4000000 in
theorem step5 (w : World) (p b q : Nat) (sv s1 s2 : Value) (x : Dk) (k : Nat) (o : OpI) (d1 d2 : Value) (h : StepAt w p b q sv s1 s2 x k o d1 d2) (hkind : o.kind = 5) : Calls Try.prog 41 #[.pointer (some ⟨p, 0, none⟩), .pointer (some ⟨q, 0, none⟩), .agg #[.int .i64 o.kind, .int .i64 o.sec, .int .i64 o.num, d1, d2]] w (SPost w p b q sv s1 s2 (crashI x o.lost) (k + 1)) := by
  obtain ⟨A1, cc1, rfl, x1, x2⟩ := h.dat.shape
  obtain ⟨A2, cc2, rfl, y1, y2⟩ := h.lost.shape
  have hu0 : Up w (w.alloc (.cells #[.int .i64 5, .int .i64 o.sec, .int .i64 o.num, .slice A1 o.dat.length cc1, .slice A2 o.lost.length cc2] 31)) := (Chg.refl _ w).alloc _
  have hbox := heap_alloc_last w (.cells #[.int .i64 5, .int .i64 o.sec, .int .i64 o.num, .slice A1 o.dat.length cc1, .slice A2 o.lost.length cc2] 31)
  have hd0 := h.d.up hu0
  have hr0 := h.r.up hu0
  have HH := Lib.hid h
  have HU0 : Hid (Chg (OwnB p b q sv s1 s2) w (w.alloc (.cells #[.int .i64 5, .int .i64 o.sec, .int .i64 o.num, .slice A1 o.dat.length cc1, .slice A2 o.lost.length cc2] 31))) := Lib.hid (hu0.mono (fun _ _ h => h.elim))
  have hl0 : SlI (w.alloc (.cells #[.int .i64 5, .int .i64 o.sec, .int .i64 o.num, .slice A1 o.dat.length cc1, .slice A2 o.lost.length cc2] 31)) (.slice A2 o.lost.length cc2) o.lost := Src.chg h.lost hu0 (fun _ _ _ h => h) (by decide)
  have HF := Lib.hid (vcrash _ p b sv x k hd0 h.wf.wf (.slice A2 o.lost.length cc2) o.lost hl0 h.ok.2.2.2.2 (by have := h.n2; omega) (fun g hg h0 hn => h.sp2 g hg h0 (.inl hn)))
  have HD0 := Lib.hid hd0
  have HR0 := Lib.hid hr0
  have HBOX := Lib.hid hbox
  have HL0 := Lib.hid hl0
  clear hu0 hbox hd0 hr0 hl0 h
  go_enter Try.func41, Try.ntmps41
  rw [hkind]
  go_wp2_with fail
  refine HF.out.mono ?_
  rintro e w1 ⟨⟨u1, rfl⟩, hd1, hc1⟩
  have hr1 := HR0.out.keepD HD0.out hc1
  have hbox1 := hc1.heap HBOX.out (fun h => by have := HH.out.d.lt _ h; omega)
  have hq4 := cell_of_row w1 w.heap.size 4 _ _ _ hbox1
  have HXF := Lib.hid (xcrash w1 q s1 s2 x k hr1 HH.out.wf (.slice A2 o.lost.length cc2) o.lost (Src.chg HL0.out hc1 (fun g hg h0 hn => HH.out.sp2 g hg h0 (.inl hn)) (by decide)) (by have := HH.out.n2; omega) (fun g hg h0 hn => HH.out.sp2 g hg h0 (.inr hn)))
  have HD1 := Lib.hid hd1
  have HR1 := Lib.hid hr1
  have HC1 := Lib.hid (HU0.out.then hc1 (fun i hi => .inl (.inl hi)))
  clear hd1 hr1 hc1 hbox1 HF
  go_wp2_with fail
  refine HXF.out.mono ?_
  rintro e w2 ⟨⟨u2, rfl⟩, hr2, hc2⟩
  have HR2 := Lib.hid hr2
  have HD2 := Lib.hid (HD1.out.keepR HR1.out hc2)
  have HC2 := Lib.hid (HC1.out.then hc2 (fun i hi => .inl (.inr hi)))
  clear hr2 hc2 HXF hq4
  go_wp2_with fail
  go_ret
  exact ⟨rfl, HD2.out.le (Nat.le_succ k), HR2.out, HC2.out⟩
set_option maxRecDepth 100000 in
set_option maxHeartbeats 4000000 in
theorem step0 (w : World) (p b q : Nat) (sv s1 s2 : Value) (x : Dk) (k : Nat) (o : OpI) (d1 d2 : Value) (h : StepAt w p b q sv s1 s2 x k o d1 d2) (hkind : o.kind ≠ 1 ∧ o.kind ≠ 2 ∧ o.kind ≠ 3 ∧ o.kind ≠ 4 ∧ o.kind ≠ 5 ∧ o.kind ≠ 6) : Calls Try.prog 41 #[.pointer (some ⟨p, 0, none⟩), .pointer (some ⟨q, 0, none⟩), .agg #[.int .i64 o.kind, .int .i64 o.sec, .int .i64 o.num, d1, d2]] w (SPost w p b q sv s1 s2 (x) (k + 1)) := by
  obtain ⟨A1, cc1, rfl, x1, x2⟩ := h.dat.shape
  obtain ⟨A2, cc2, rfl, y1, y2⟩ := h.lost.shape
  have hu0 : Up w (w.alloc (.cells #[.int .i64 o.kind, .int .i64 o.sec, .int .i64 o.num, .slice A1 o.dat.length cc1, .slice A2 o.lost.length cc2] 31)) := (Chg.refl _ w).alloc _
  have hbox := heap_alloc_last w (.cells #[.int .i64 o.kind, .int .i64 o.sec, .int .i64 o.num, .slice A1 o.dat.length cc1, .slice A2 o.lost.length cc2] 31)
  have hd0 := h.d.up hu0
  have hr0 := h.r.up hu0
  have HH := Lib.hid h
  have HU0 : Hid (Chg (OwnB p b q sv s1 s2) w (w.alloc (.cells #[.int .i64 o.kind, .int .i64 o.sec, .int .i64 o.num, .slice A1 o.dat.length cc1, .slice A2 o.lost.length cc2] 31))) := Lib.hid (hu0.mono (fun _ _ h => h.elim))
  obtain ⟨k1, k2, k3, k4, k5, k6⟩ := hkind
  have k1' : (o.kind == 1) = false := by rw [beq_eq_false_iff_ne]; exact k1
  have k2' : (o.kind == 2) = false := by rw [beq_eq_false_iff_ne]; exact k2
  have k3' : (o.kind == 3) = false := by rw [beq_eq_false_iff_ne]; exact k3
  have k4' : (o.kind == 4) = false := by rw [beq_eq_false_iff_ne]; exact k4
  have k5' : (o.kind == 5) = false := by rw [beq_eq_false_iff_ne]; exact k5
  have k6' : (o.kind == 6) = false := by rw [beq_eq_false_iff_ne]; exact k6
  have HD0 := Lib.hid hd0
  have HR0 := Lib.hid hr0
  clear hu0 hbox hd0 hr0 h
  go_enter Try.func41, Try.ntmps41
  go_wp2_with fail
  go_ret
  exact ⟨rfl, HD0.out.le (Nat.le_succ k), HR0.out, HU0.out⟩
set_option maxRecDepth 100000 in
set_option maxHeartbeats 4000000 in
theorem step4 (w : World) (p b q : Nat) (sv s1 s2 : Value) (x : Dk) (k : Nat) (o : OpI) (d1 d2 : Value) (h : StepAt w p b q sv s1 s2 x k o d1 d2) (hkind : o.kind = 4) : Calls Try.prog 41 #[.pointer (some ⟨p, 0, none⟩), .pointer (some ⟨q, 0, none⟩), .agg #[.int .i64 o.kind, .int .i64 o.sec, .int .i64 o.num, d1, d2]] w (SPost w p b q sv s1 s2 ({ x with left := max o.num (-1) }) (k + 1)) := by
  obtain ⟨A1, cc1, rfl, x1, x2⟩ := h.dat.shape
  obtain ⟨A2, cc2, rfl, y1, y2⟩ := h.lost.shape
  have hu0 : Up w (w.alloc (.cells #[.int .i64 4, .int .i64 o.sec, .int .i64 o.num, .slice A1 o.dat.length cc1, .slice A2 o.lost.length cc2] 31)) := (Chg.refl _ w).alloc _
  have hbox := heap_alloc_last w (.cells #[.int .i64 4, .int .i64 o.sec, .int .i64 o.num, .slice A1 o.dat.length cc1, .slice A2 o.lost.length cc2] 31)
  have hd0 := h.d.up hu0
  have hr0 := h.r.up hu0
  have HH := Lib.hid h
  have HU0 : Hid (Chg (OwnB p b q sv s1 s2) w (w.alloc (.cells #[.int .i64 4, .int .i64 o.sec, .int .i64 o.num, .slice A1 o.dat.length cc1, .slice A2 o.lost.length cc2] 31))) := Lib.hid (hu0.mono (fun _ _ h => h.elim))
  have HF := Lib.hid (varm _ p b sv x k hd0 o.num)
  have HD0 := Lib.hid hd0
  have HR0 := Lib.hid hr0
  have HBOX := Lib.hid hbox
  have hnum := h.ok.2.2.1
  obtain ⟨hnum1, hnum2⟩ := hnum
  clear hu0 hbox hd0 hr0 h
  go_enter Try.func41, Try.ntmps41
  rw [hkind]
  go_wp2_with fail
  refine HF.out.mono ?_
  rintro e w1 ⟨⟨u1, rfl⟩, hd1, hc1⟩
  have hr1 := HR0.out.keepD HD0.out hc1
  have hbox1 := hc1.heap HBOX.out (fun h => by have := HH.out.d.lt _ h; omega)
  have hq2 := cell_of_row w1 w.heap.size 2 _ _ _ hbox1
  have HR0' := Lib.hid hr1
  obtain ⟨L, ar, hF, hL1, hL2⟩ := hr1
  have HFF := Lib.hid hF
  have hq3 := hF.c3
  have hq5 := hF.c5
  have f3 := hF.fz 3
  have f5 := hF.fz 5
  have hne : q ≠ w.heap.size := fun e => by have := HH.out.r.lt q (.inl rfl); omega
  have HD1 := Lib.hid hd1
  have HC1 := Lib.hid (HU0.out.then hc1 (fun i hi => .inl (.inl hi)))
  clear hd1 hc1 hbox1 HF hF hL1 hL2
  by_cases hn0 : 0 ≤ o.num
  · go_wp2_with fail
    go_region
    go_wp2_with fail
    go_ret
    have hc : Chg (fun i => i = q) w1 (((w1.setCell ⟨q, 5, none⟩ (.bool true)).setCell ⟨q, 3, none⟩ (.int .i64 o.num)).drew) := (((Chg.refl (fun i => i = q) w1).setCell ⟨q, 5, none⟩ (.inl rfl) _).setCell ⟨q, 3, none⟩ (.inl rfl) _).drew
    have hr : RefX w1 q s1 s2 x := HR0'.out
    refine ⟨rfl, (HD1.out.keepR hr (hc.mono (fun j _ hj => .inl hj))).le (Nat.le_succ k), ⟨o.num, true, HFF.out.nums hc (by
      show ((w1.setCell ⟨q, 5, none⟩ (.bool true)).setCell ⟨q, 3, none⟩ (.int .i64 o.num)).heap[q]? = _
      rw [heap_setCell_same _ q 3 _ _ _ (heap_setCell_same w1 q 5 _ _ _ HFF.out.obj)]; rfl), fun _ => ⟨by show o.num = max o.num (-1); omega, hn0⟩, fun h => by cases h⟩, HC1.out.then hc (fun i hi => .inl (.inr (.inl hi)))⟩
  · have hn0' : o.num < 0 := by omega
    go_wp2_with fail
    go_region
    go_wp2_with fail
    go_ret
    rw [show decide (0 ≤ o.num) = false by simp; omega]
    have hc : Chg (fun i => i = q) w1 (((w1.setCell ⟨q, 5, none⟩ (.bool false)).setCell ⟨q, 3, none⟩ (.int .i64 o.num)).drew) := (((Chg.refl (fun i => i = q) w1).setCell ⟨q, 5, none⟩ (.inl rfl) _).setCell ⟨q, 3, none⟩ (.inl rfl) _).drew
    have hr : RefX w1 q s1 s2 x := HR0'.out
    refine ⟨rfl, (HD1.out.keepR hr (hc.mono (fun j _ hj => .inl hj))).le (Nat.le_succ k), ⟨o.num, false, HFF.out.nums hc (by
      show ((w1.setCell ⟨q, 5, none⟩ (.bool false)).setCell ⟨q, 3, none⟩ (.int .i64 o.num)).heap[q]? = _
      rw [heap_setCell_same _ q 3 _ _ _ (heap_setCell_same w1 q 5 _ _ _ HFF.out.obj)]; rfl), fun h => (by cases h), fun _ => by show max o.num (-1) = -1; omega⟩, HC1.out.then hc (fun i hi => .inl (.inr (.inl hi)))⟩
end Go.Proofs.Ytkndnlhlglgmfaa
