/-
  One call to a disk beside a document's disk that is another one: only what the disk does counts.
-/
import Derived.Test.YtkndnlhlglgmfaaE28
namespace Go.Proofs.Ytkndnlhlglgmfaa
open Go.RowKit
def FPost (w : World) (p b q : Nat) (sv s1 s2 : Value) (z : Dk) (k : Nat) (e : Ending) (w' : World) : Prop := ∃ t, e = .returned (.bool t) ∧ DskV w' p b sv z k ∧ Chg (OwnB p b q sv s1 s2) w w'
structure FreeAt (w : World) (p b q : Nat) (sv s1 s2 : Value) (x y : Dk) (k : Nat) (o : OpI) (d1 d2 : Value) : Prop where
  d : DskV w p b sv x k
  r : RefX w q s1 s2 y
  wf : W16 x k
  wf2 : W16 y 0
  up : y.down = false
  num : x.has.length = y.has.length
  k : k ≤ 80000
  ok : OpOk o
  dat : SlB w d1 o.dat
  lost : SlI w d2 o.lost
  n1 : o.dat.length ≤ 1000
  n2 : o.lost.length ≤ 1000
  sp1 : ∀ g, Value.blk d1 = some g → 0 < o.dat.length → ¬ OwnB p b q sv s1 s2 g
  sp2 : ∀ g, Value.blk d2 = some g → 0 < o.lost.length → ¬ OwnB p b q sv s1 s2 g
set_option maxRecDepth 100000 in
set_option maxHeartbeats 4000000 in
theorem free1 (w : World) (p b q : Nat) (sv s1 s2 : Value) (x y : Dk) (k : Nat) (o : OpI) (d1 d2 : Value) (h : FreeAt w p b q sv s1 s2 x y k o d1 d2) (hkind : o.kind = 1) : Calls Try.prog 41 #[.pointer (some ⟨p, 0, none⟩), .pointer (some ⟨q, 0, none⟩), .agg #[.int .i64 o.kind, .int .i64 o.sec, .int .i64 o.num, d1, d2]] w (FPost w p b q sv s1 s2 ((writeI x o.sec o.dat).1) (k + 1)) := by
  obtain ⟨A1, cc1, rfl, x1, x2⟩ := h.dat.shape
  obtain ⟨A2, cc2, rfl, y1, y2⟩ := h.lost.shape
  have hu0 : Up w (w.alloc (.cells #[.int .i64 o.kind, .int .i64 o.sec, .int .i64 o.num, .slice A1 o.dat.length cc1, .slice A2 o.lost.length cc2] 31)) := (Chg.refl _ w).alloc _
  have hbox := heap_alloc_last w (.cells #[.int .i64 o.kind, .int .i64 o.sec, .int .i64 o.num, .slice A1 o.dat.length cc1, .slice A2 o.lost.length cc2] 31)
  obtain ⟨v3, w3, hrun, hown, hgr, _, hblk⟩ := ap_run (P := Try.prog) ((w.alloc (.cells #[.int .i64 o.kind, .int .i64 o.sec, .int .i64 o.num, .slice A1 o.dat.length cc1, .slice A2 o.lost.length cc2] 31)).alloc (.cells #[] 5)) 28 28 (w.alloc (.cells #[.int .i64 o.kind, .int .i64 o.sec, .int .i64 o.num, .slice A1 o.dat.length cc1, .slice A2 o.lost.length cc2] 31)).heap.size 5 (.int .u8 0) 1 1 Try.underlying28 (by kernel_rfl) rfl (by decide) _ 0 [] (World.ownsRow_made (w.alloc (.cells #[.int .i64 o.kind, .int .i64 o.sec, .int .i64 o.num, .slice A1 o.dat.length cc1, .slice A2 o.lost.length cc2] 31)) #[] 0 (Nat.le_refl _) (by simp [maxLen]) (by simp)) (.slice A1 o.dat.length cc1) o.dat.length (u8s o.dat) (Src.chg h.dat (hu0.alloc (.cells #[] 5)) (fun _ _ _ h => h) (by decide)) (u8s_one o.dat) (by have := h.n1; omega) (by have := h.n1; omega) (by simp)
  have hu3 : Up w w3 := by
    have h2 : Up w ((w.alloc (.cells #[.int .i64 o.kind, .int .i64 o.sec, .int .i64 o.num, .slice A1 o.dat.length cc1, .slice A2 o.lost.length cc2] 31)).alloc (.cells #[] 5)) := hu0.alloc _
    refine h2.then (Chg.of_grownBy hgr) (fun i hi => .inr ?_)
    simp [Value.ownBlock] at hi
    omega
  have hbox3 : w3.heap[w.heap.size]? = some (.cells #[.int .i64 o.kind, .int .i64 o.sec, .int .i64 o.num, .slice A1 o.dat.length cc1, .slice A2 o.lost.length cc2] 31 (0, 0)) := by
    have h2 : ((w.alloc (.cells #[.int .i64 o.kind, .int .i64 o.sec, .int .i64 o.num, .slice A1 o.dat.length cc1, .slice A2 o.lost.length cc2] 31)).alloc (.cells #[] 5)).heap[w.heap.size]? = some (.cells #[.int .i64 o.kind, .int .i64 o.sec, .int .i64 o.num, .slice A1 o.dat.length cc1, .slice A2 o.lost.length cc2] 31 (0, 0)) := (Below.heap_alloc _ _ _ (by simp)).trans hbox
    exact (Chg.of_grownBy hgr).heap h2 (fun hi => by simp [Value.ownBlock] at hi)
  rw [show (w.alloc (.cells #[.int .i64 o.kind, .int .i64 o.sec, .int .i64 o.num, .slice A1 o.dat.length cc1, .slice A2 o.lost.length cc2] 31)).heap.size = w.heap.size + 1 by simp] at hrun hown hblk
  rw [Nat.zero_add] at hown
  simp only [List.nil_append] at hown
  obtain ⟨A3, c3, rfl⟩ := own_shape hown
  obtain ⟨g, hg1, hg2, hg3⟩ : ∃ g, w.heap.size ≤ g ∧ g < w3.heap.size ∧ ∀ j, (Value.slice A3 o.dat.length c3).ownBlock = some j → j = g := by
    by_cases hA : ∃ g, (Value.slice A3 o.dat.length c3).ownBlock = some g
    · obtain ⟨g, hg⟩ := hA
      obtain ⟨cu, fu, hh⟩ := own_type hown g hg
      refine ⟨g, ?_, (Array.getElem?_eq_some_iff.1 hh).1, fun j hj => by rw [hg] at hj; injection hj with e; exact e.symm⟩
      rcases hown.2 with ⟨e, _⟩ | ⟨g', cap, cur, e, hb, _⟩
      · rw [e] at hg; simp [Value.ownBlock] at hg
      · rw [e] at hg; simp [Value.ownBlock] at hg; omega
    · exact ⟨w.heap.size, Nat.le_refl _, (Array.getElem?_eq_some_iff.1 hbox3).1, fun j hj => absurd ⟨j, hj⟩ hA⟩
  have hr3 := h.r.up hu3
  have hd3 := (h.d.toG g hg1).chg hu3 (fun _ _ h => h) (fun _ _ _ h => h.elim)
  have hsl3 : SlB w3 (.slice A3 o.dat.length c3) o.dat := slb_of hown
  have HW69 := Lib.hid (xwrite w3 q s1 s2 y 0 hr3 h.wf2 (by omega) o.sec h.ok.2.1 _ o.dat hsl3)
  have hq1 := cell_of_row w3 w.heap.size 1 _ _ _ hbox3
  have hq3 := cell_of_row w3 w.heap.size 3 _ _ _ hbox3
  have HH := Lib.hid h
  have HRUN := Lib.hid hrun
  have HU3 := Lib.hid hu3
  have HBOX := Lib.hid hbox3
  have HR3 := Lib.hid hr3
  have HD3 := Lib.hid hd3
  have HOWN := Lib.hid hown
  have HG := Lib.hid hg3
  have hdn1 := h.n1
  clear hrun hu3 hbox3 hr3 hd3 hown hg3 hsl3 hgr hblk hbox hu0 h
  go_enter Try.func41, Try.ntmps41
  rw [hkind] at HRUN ⊢
  go_wp2_with (at_builtin; refine wpList_run_append rfl (.tmp 19) (.tmp 21) 28 rfl _ _ rfl rfl 28 rfl HRUN.out ?_)
  refine HW69.out.mono ?_
  rintro e w4 ⟨rfl, hr4, hc4⟩
  have hbox4 := hc4.heap HBOX.out (fun h => by have := HH.out.r.lt _ h; omega)
  have hq1' := cell_of_row w4 w.heap.size 1 _ _ _ hbox4
  have hq3' := cell_of_row w4 w.heap.size 3 _ _ _ hbox4
  have hown4 := own_chg HOWN.out hc4 (fun j hj h => by have := HH.out.r.lt _ h; have := HG.out j hj; omega)
  have hd4 := HD3.out.keepR HR3.out hc4
  have HW16 := Lib.hid (gwrite w4 p b sv x k g hd4 (by have := hc4.size; omega) HH.out.wf.wf (by have := HH.out.k; omega) o.sec (.slice A3 o.dat.length c3) o.dat (slb_of hown4) (by omega))
  have HC4 := Lib.hid hc4
  have HR4 := Lib.hid hr4
  have HD4 := Lib.hid hd4.toV
  have HOWN4 := Lib.hid hown4
  clear hc4 hr4 hd4 hown4 hbox4 HW69 hq1 hq3
  go_wp2_with fail
  refine HW16.out.mono ?_
  rintro e w5 ⟨rfl, hd5, hc5⟩
  have HROW := Lib.hid (own_chg HOWN4.out hc5 (fun j hj h => by have := HH.out.d.lt _ h; have := HG.out j hj; omega))
  have HD5 := Lib.hid hd5
  have HR5 := Lib.hid (HR4.out.keepD HD4.out hc5)
  have HC5 := Lib.hid (((HU3.out.mono (fun _ _ h => h.elim) : Chg (OwnB p b q sv s1 s2) w w3).then HC4.out (fun i hi => .inl (.inr hi))).then hc5 (fun i hi => .inl (.inl hi)))
  clear hd5
  clear hc5 HW16
  obtain ⟨r, hr⟩ : ∃ r, (writeI x o.sec o.dat).2 = r := ⟨_, rfl⟩
  obtain ⟨r2, hr2⟩ : ∃ r, (writeI y o.sec o.dat).2 = r := ⟨_, rfl⟩
  rw [hr, hr2]
  clear hr hr2
  go_wp2_with fail
  go_loopw [35] (fun t wr => ∃ (j : Nat) (l : List Int), j ≤ o.dat.length ∧ t = .int .i64 j ∧ l.length = o.dat.length ∧ wr.ownsRow (w.heap.size + 1) 5 1 (.slice A3 o.dat.length c3) o.dat.length (u8s l) ∧ Chg (fun i => i = g) w5 wr) (fun t _ => o.dat.length - (intOf t).toNat)
  case atStart => exact ⟨0, o.dat, by omega, rfl, rfl, HROW.out, Chg.refl _ _⟩
  case round =>
    rename World => wr
    obtain ⟨j, l, hj, rfl, hll, hrow, hch⟩ := hrel
    by_cases hj2 : (j : Int) < o.dat.length
    · obtain ⟨g', hg'⟩ : ∃ g', A3 = some ⟨g', 0, none⟩ := by
        rcases hrow.2 with ⟨_, hz⟩ | ⟨g', cap, cur, he, _⟩
        · omega
        · injection he with e1; exact ⟨g', e1⟩
      have hgg : g' = g := HG.out g' (by rw [hg']; rfl)
      rw [hgg] at hg'
      subst hg'
      have hce := World.ownsRow.cells hrow rfl j _ (u8s_at (show j < l.length by omega))
      rw [addr_add, Nat.zero_add] at hce
      have hfz : wr.frozen? ⟨g, j, none⟩ = false := World.ownsRow.frozenAt hrow j
      have HST : Hid (∀ z : Int, (wr.setCell ⟨g, j, none⟩ (.int .u8 z)).ownsRow (w.heap.size + 1) 5 1 (.slice (some ⟨g, 0, none⟩) o.dat.length c3) o.dat.length (u8s (l.set j z))) := Lib.hid (fun z => by
        obtain ⟨hs1, _⟩ := World.ownsRow.stored hrow j (.int .u8 z)
        rw [u8s_set] at hs1
        exact hs1)
      have HCH : Hid (∀ z : Int, Chg (fun i => i = g) w5 (wr.setCell ⟨g, j, none⟩ (.int .u8 z))) := Lib.hid (fun z => hch.setCell ⟨g, j, none⟩ (.inl rfl) _)
      have HLL := Lib.hid hll
      clear hrow hch hgg
      go_wp2_with fail
      exact ⟨⟨j + 1, l.set j _, by omega, by go_num, by rw [List.length_set]; exact HLL.out, HST.out _, HCH.out _⟩, by simp [intOf]; omega⟩
    · obtain ⟨jn, hjn⟩ : ∃ m, j = m := ⟨_, rfl⟩
      have hje : (j : Int) = o.dat.length := by omega
      rw [hje]
      have HCH := Lib.hid hch
      clear hrow hch
      go_wp2_with fail
      go_ret
      exact ⟨_, rfl, (HD5.out.turn HCH.out (fun h => by have := HH.out.d.lt _ h; omega)).toV, HC5.out.then HCH.out (fun i hi => .inr (by omega))⟩
set_option maxRecDepth 100000 in
set_option maxHeartbeats 4000000 in
theorem free2 (w : World) (p b q : Nat) (sv s1 s2 : Value) (x y : Dk) (k : Nat) (o : OpI) (d1 d2 : Value) (h : FreeAt w p b q sv s1 s2 x y k o d1 d2) (hkind : o.kind = 2) : Calls Try.prog 41 #[.pointer (some ⟨p, 0, none⟩), .pointer (some ⟨q, 0, none⟩), .agg #[.int .i64 o.kind, .int .i64 o.sec, .int .i64 o.num, d1, d2]] w (FPost w p b q sv s1 s2 ((flushI x).1) (k + 1)) := by
  obtain ⟨A1, cc1, rfl, x1, x2⟩ := h.dat.shape
  obtain ⟨A2, cc2, rfl, y1, y2⟩ := h.lost.shape
  have hu0 : Up w (w.alloc (.cells #[.int .i64 2, .int .i64 o.sec, .int .i64 o.num, .slice A1 o.dat.length cc1, .slice A2 o.lost.length cc2] 31)) := (Chg.refl _ w).alloc _
  have hbox := heap_alloc_last w (.cells #[.int .i64 2, .int .i64 o.sec, .int .i64 o.num, .slice A1 o.dat.length cc1, .slice A2 o.lost.length cc2] 31)
  have hd0 := h.d.up hu0
  have hr0 := h.r.up hu0
  have HH := Lib.hid h
  have HU0 : Hid (Chg (OwnB p b q sv s1 s2) w (w.alloc (.cells #[.int .i64 2, .int .i64 o.sec, .int .i64 o.num, .slice A1 o.dat.length cc1, .slice A2 o.lost.length cc2] 31))) := Lib.hid (hu0.mono (fun _ _ h => h.elim))
  have HF := Lib.hid (vflush _ p b sv x k hd0 h.wf.wf (by have := h.k; omega))
  have HD0 := Lib.hid hd0
  have HR0 := Lib.hid hr0
  clear hu0 hbox hd0 hr0 h
  obtain ⟨r, hr⟩ : ∃ r, (flushI x).2 = r := ⟨_, rfl⟩
  rw [hr] at HF
  clear hr
  go_enter Try.func41, Try.ntmps41
  rw [hkind]
  go_wp2_with fail
  refine HF.out.mono ?_
  rintro e w1 ⟨rfl, hd1, hc1⟩
  have hr1 := HR0.out.keepD HD0.out hc1
  have HXF := Lib.hid (xflush w1 q s1 s2 y 0 hr1 HH.out.wf2 (by omega))
  obtain ⟨r2, hr2⟩ : ∃ r, (flushI y).2 = r := ⟨_, rfl⟩
  rw [hr2] at HXF
  clear hr2
  have HD1 := Lib.hid hd1
  have HR1 := Lib.hid hr1
  have HC1 := Lib.hid (HU0.out.then hc1 (fun i hi => .inl (.inl hi)))
  clear hd1 hr1 hc1 HF
  go_wp2_with fail
  refine HXF.out.mono ?_
  rintro e w2 ⟨rfl, hr2, hc2⟩
  have HD2 := Lib.hid (HD1.out.keepR HR1.out hc2)
  have HC2 := Lib.hid (HC1.out.then hc2 (fun i hi => .inl (.inr hi)))
  clear hr2 hc2 HXF
  go_wp2_with fail
  go_ret
  exact ⟨_, rfl, HD2.out, HC2.out⟩
set_option maxRecDepth 100000 in
set_option maxHeartbeats 4000000 in
theorem free5 (w : World) (p b q : Nat) (sv s1 s2 : Value) (x y : Dk) (k : Nat) (o : OpI) (d1 d2 : Value) (h : FreeAt w p b q sv s1 s2 x y k o d1 d2) (hkind : o.kind = 5) : Calls Try.prog 41 #[.pointer (some ⟨p, 0, none⟩), .pointer (some ⟨q, 0, none⟩), .agg #[.int .i64 o.kind, .int .i64 o.sec, .int .i64 o.num, d1, d2]] w (FPost w p b q sv s1 s2 (crashI x o.lost) (k + 1)) := by
  obtain ⟨A1, cc1, rfl, x1, x2⟩ := h.dat.shape
  obtain ⟨A2, cc2, rfl, y1, y2⟩ := h.lost.shape
  have hu0 : Up w (w.alloc (.cells #[.int .i64 5, .int .i64 o.sec, .int .i64 o.num, .slice A1 o.dat.length cc1, .slice A2 o.lost.length cc2] 31)) := (Chg.refl _ w).alloc _
  have hbox := heap_alloc_last w (.cells #[.int .i64 5, .int .i64 o.sec, .int .i64 o.num, .slice A1 o.dat.length cc1, .slice A2 o.lost.length cc2] 31)
  have hd0 := h.d.up hu0
  have hr0 := h.r.up hu0
  have HH := Lib.hid h
  have HU0 : Hid (Chg (OwnB p b q sv s1 s2) w (w.alloc (.cells #[.int .i64 5, .int .i64 o.sec, .int .i64 o.num, .slice A1 o.dat.length cc1, .slice A2 o.lost.length cc2] 31))) := Lib.hid (hu0.mono (fun _ _ h => h.elim))
  have hl0 : SlI (w.alloc (.cells #[.int .i64 5, .int .i64 o.sec, .int .i64 o.num, .slice A1 o.dat.length cc1, .slice A2 o.lost.length cc2] 31)) (.slice A2 o.lost.length cc2) o.lost := Src.chg h.lost hu0 (fun _ _ _ h => h) (by decide)
  have HF := Lib.hid (vcrash _ p b sv x k hd0 h.wf.wf (.slice A2 o.lost.length cc2) o.lost hl0 h.ok.2.2.2.2 (by have := h.n2; omega) (fun g hg h0 hn => h.sp2 g hg h0 (.inl hn)))
  have HD0 := Lib.hid hd0
  have HR0 := Lib.hid hr0
  have HBOX := Lib.hid hbox
  have HL0 := Lib.hid hl0
  clear hu0 hbox hd0 hr0 hl0 h
  go_enter Try.func41, Try.ntmps41
  rw [hkind]
  go_wp2_with fail
  refine HF.out.mono ?_
  rintro e w1 ⟨⟨u1, rfl⟩, hd1, hc1⟩
  have hr1 := HR0.out.keepD HD0.out hc1
  have hbox1 := hc1.heap HBOX.out (fun h => by have := HH.out.d.lt _ h; omega)
  have hq4 := cell_of_row w1 w.heap.size 4 _ _ _ hbox1
  have HXF := Lib.hid (xcrash w1 q s1 s2 y 0 hr1 HH.out.wf2 (.slice A2 o.lost.length cc2) o.lost (Src.chg HL0.out hc1 (fun g hg h0 hn => HH.out.sp2 g hg h0 (.inl hn)) (by decide)) (by have := HH.out.n2; omega) (fun g hg h0 hn => HH.out.sp2 g hg h0 (.inr hn)))
  have HD1 := Lib.hid hd1
  have HR1 := Lib.hid hr1
  have HC1 := Lib.hid (HU0.out.then hc1 (fun i hi => .inl (.inl hi)))
  clear hd1 hr1 hc1 hbox1 HF
  go_wp2_with fail
  refine HXF.out.mono ?_
  rintro e w2 ⟨⟨u2, rfl⟩, hr2, hc2⟩
  have HR2 := Lib.hid hr2
  have HD2 := Lib.hid (HD1.out.keepR HR1.out hc2)
  have HC2 := Lib.hid (HC1.out.then hc2 (fun i hi => .inl (.inr hi)))
  clear hr2 hc2 HXF hq4
  go_wp2_with fail
  go_ret
  exact ⟨_, rfl, HD2.out.le (Nat.le_succ k), HC2.out⟩
set_option maxRecDepth 100000 in
set_option maxHeartbeats 4000000 in
theorem free0 (w : World) (p b q : Nat) (sv s1 s2 : Value) (x y : Dk) (k : Nat) (o : OpI) (d1 d2 : Value) (h : FreeAt w p b q sv s1 s2 x y k o d1 d2) (hkind : o.kind ≠ 1 ∧ o.kind ≠ 2 ∧ o.kind ≠ 3 ∧ o.kind ≠ 4 ∧ o.kind ≠ 5 ∧ o.kind ≠ 6) : Calls Try.prog 41 #[.pointer (some ⟨p, 0, none⟩), .pointer (some ⟨q, 0, none⟩), .agg #[.int .i64 o.kind, .int .i64 o.sec, .int .i64 o.num, d1, d2]] w (FPost w p b q sv s1 s2 (x) (k + 1)) := by
  obtain ⟨A1, cc1, rfl, x1, x2⟩ := h.dat.shape
  obtain ⟨A2, cc2, rfl, y1, y2⟩ := h.lost.shape
  have hu0 : Up w (w.alloc (.cells #[.int .i64 o.kind, .int .i64 o.sec, .int .i64 o.num, .slice A1 o.dat.length cc1, .slice A2 o.lost.length cc2] 31)) := (Chg.refl _ w).alloc _
  have hbox := heap_alloc_last w (.cells #[.int .i64 o.kind, .int .i64 o.sec, .int .i64 o.num, .slice A1 o.dat.length cc1, .slice A2 o.lost.length cc2] 31)
  have hd0 := h.d.up hu0
  have hr0 := h.r.up hu0
  have HH := Lib.hid h
  have HU0 : Hid (Chg (OwnB p b q sv s1 s2) w (w.alloc (.cells #[.int .i64 o.kind, .int .i64 o.sec, .int .i64 o.num, .slice A1 o.dat.length cc1, .slice A2 o.lost.length cc2] 31))) := Lib.hid (hu0.mono (fun _ _ h => h.elim))
  obtain ⟨k1, k2, k3, k4, k5, k6⟩ := hkind
  have k1' : (o.kind == 1) = false := by rw [beq_eq_false_iff_ne]; exact k1
  have k2' : (o.kind == 2) = false := by rw [beq_eq_false_iff_ne]; exact k2
  have k3' : (o.kind == 3) = false := by rw [beq_eq_false_iff_ne]; exact k3
  have k4' : (o.kind == 4) = false := by rw [beq_eq_false_iff_ne]; exact k4
  have k5' : (o.kind == 5) = false := by rw [beq_eq_false_iff_ne]; exact k5
  have k6' : (o.kind == 6) = false := by rw [beq_eq_false_iff_ne]; exact k6
  have HD0 := Lib.hid hd0
  have HR0 := Lib.hid hr0
  clear hu0 hbox hd0 hr0 h
  go_enter Try.func41, Try.ntmps41
  go_wp2_with fail
  go_ret
  exact ⟨_, rfl, HD0.out.le (Nat.le_succ k), HU0.out⟩
set_option maxRecDepth 100000 in
set_option maxHeartbeats 4000000 in
theorem free4 (w : World) (p b q : Nat) (sv s1 s2 : Value) (x y : Dk) (k : Nat) (o : OpI) (d1 d2 : Value) (h : FreeAt w p b q sv s1 s2 x y k o d1 d2) (hkind : o.kind = 4) : Calls Try.prog 41 #[.pointer (some ⟨p, 0, none⟩), .pointer (some ⟨q, 0, none⟩), .agg #[.int .i64 o.kind, .int .i64 o.sec, .int .i64 o.num, d1, d2]] w (FPost w p b q sv s1 s2 ({ x with left := max o.num (-1) }) (k + 1)) := by
  obtain ⟨A1, cc1, rfl, x1, x2⟩ := h.dat.shape
  obtain ⟨A2, cc2, rfl, y1, y2⟩ := h.lost.shape
  have hu0 : Up w (w.alloc (.cells #[.int .i64 4, .int .i64 o.sec, .int .i64 o.num, .slice A1 o.dat.length cc1, .slice A2 o.lost.length cc2] 31)) := (Chg.refl _ w).alloc _
  have hbox := heap_alloc_last w (.cells #[.int .i64 4, .int .i64 o.sec, .int .i64 o.num, .slice A1 o.dat.length cc1, .slice A2 o.lost.length cc2] 31)
  have hd0 := h.d.up hu0
  have hr0 := h.r.up hu0
  have HH := Lib.hid h
  have HU0 : Hid (Chg (OwnB p b q sv s1 s2) w (w.alloc (.cells #[.int .i64 4, .int .i64 o.sec, .int .i64 o.num, .slice A1 o.dat.length cc1, .slice A2 o.lost.length cc2] 31))) := Lib.hid (hu0.mono (fun _ _ h => h.elim))
  have HF := Lib.hid (varm _ p b sv x k hd0 o.num)
  have HD0 := Lib.hid hd0
  have HR0 := Lib.hid hr0
  have HBOX := Lib.hid hbox
  have hnum := h.ok.2.2.1
  obtain ⟨hnum1, hnum2⟩ := hnum
  clear hu0 hbox hd0 hr0 h
  go_enter Try.func41, Try.ntmps41
  rw [hkind]
  go_wp2_with fail
  refine HF.out.mono ?_
  rintro e w1 ⟨⟨u1, rfl⟩, hd1, hc1⟩
  have hr1 := HR0.out.keepD HD0.out hc1
  have hbox1 := hc1.heap HBOX.out (fun h => by have := HH.out.d.lt _ h; omega)
  have hq2 := cell_of_row w1 w.heap.size 2 _ _ _ hbox1
  have HR0' := Lib.hid hr1
  obtain ⟨L, ar, hF, hL1, hL2⟩ := hr1
  have HFF := Lib.hid hF
  have hq3 := hF.c3
  have hq5 := hF.c5
  have f3 := hF.fz 3
  have f5 := hF.fz 5
  have hne : q ≠ w.heap.size := fun e => by have := HH.out.r.lt q (.inl rfl); omega
  have HD1 := Lib.hid hd1
  have HC1 := Lib.hid (HU0.out.then hc1 (fun i hi => .inl (.inl hi)))
  clear hd1 hc1 hbox1 HF hF hL1 hL2
  by_cases hn0 : 0 ≤ o.num
  · go_wp2_with fail
    go_region
    go_wp2_with fail
    go_ret
    have hc : Chg (fun i => i = q) w1 (((w1.setCell ⟨q, 5, none⟩ (.bool true)).setCell ⟨q, 3, none⟩ (.int .i64 o.num)).drew) := (((Chg.refl (fun i => i = q) w1).setCell ⟨q, 5, none⟩ (.inl rfl) _).setCell ⟨q, 3, none⟩ (.inl rfl) _).drew
    have hr : RefX w1 q s1 s2 y := HR0'.out
    exact ⟨_, rfl, (HD1.out.keepR hr (hc.mono (fun j _ hj => .inl hj))).le (Nat.le_succ k), HC1.out.then hc (fun i hi => .inl (.inr (.inl hi)))⟩
  · have hn0' : o.num < 0 := by omega
    go_wp2_with fail
    go_region
    go_wp2_with fail
    go_ret
    rw [show decide (0 ≤ o.num) = false by simp; omega]
    have hc : Chg (fun i => i = q) w1 (((w1.setCell ⟨q, 5, none⟩ (.bool false)).setCell ⟨q, 3, none⟩ (.int .i64 o.num)).drew) := (((Chg.refl (fun i => i = q) w1).setCell ⟨q, 5, none⟩ (.inl rfl) _).setCell ⟨q, 3, none⟩ (.inl rfl) _).drew
    have hr : RefX w1 q s1 s2 y := HR0'.out
    exact ⟨_, rfl, (HD1.out.keepR hr (hc.mono (fun j _ hj => .inl hj))).le (Nat.le_succ k), HC1.out.then hc (fun i hi => .inl (.inr (.inl hi)))⟩
set_option maxRecDepth 100000 in
set_option maxHeartbeats 4000000 in
theorem free6 (w : World) (p b q : Nat) (sv s1 s2 : Value) (x y : Dk) (k : Nat) (o : OpI) (d1 d2 : Value) (h : FreeAt w p b q sv s1 s2 x y k o d1 d2) (hkind : o.kind = 6) : Calls Try.prog 41 #[.pointer (some ⟨p, 0, none⟩), .pointer (some ⟨q, 0, none⟩), .agg #[.int .i64 o.kind, .int .i64 o.sec, .int .i64 o.num, d1, d2]] w (FPost w p b q sv s1 s2 ((tamperI x o.sec o.dat).1) (k + 1)) := by
  obtain ⟨A1, cc1, rfl, x1, x2⟩ := h.dat.shape
  obtain ⟨A2, cc2, rfl, y1, y2⟩ := h.lost.shape
  have hu0 : Up w (w.alloc (.cells #[.int .i64 6, .int .i64 o.sec, .int .i64 o.num, .slice A1 o.dat.length cc1, .slice A2 o.lost.length cc2] 31)) := (Chg.refl _ w).alloc _
  have hbox := heap_alloc_last w (.cells #[.int .i64 6, .int .i64 o.sec, .int .i64 o.num, .slice A1 o.dat.length cc1, .slice A2 o.lost.length cc2] 31)
  have hd0 := h.d.up hu0
  have hr0 := h.r.up hu0
  have HH := Lib.hid h
  have HU0 : Hid (Chg (OwnB p b q sv s1 s2) w (w.alloc (.cells #[.int .i64 6, .int .i64 o.sec, .int .i64 o.num, .slice A1 o.dat.length cc1, .slice A2 o.lost.length cc2] 31))) := Lib.hid (hu0.mono (fun _ _ h => h.elim))
  have HD0 : Hid (DskV (w.alloc (.cells #[.int .i64 6, .int .i64 o.sec, .int .i64 o.num, .slice A1 o.dat.length cc1, .slice A2 o.lost.length cc2] 31)).drew p b sv x k) := Lib.hid (hd0.up (Chg.refl _ _).drew)
  have HR0 : Hid (RefX (w.alloc (.cells #[.int .i64 6, .int .i64 o.sec, .int .i64 o.num, .slice A1 o.dat.length cc1, .slice A2 o.lost.length cc2] 31)).drew q s1 s2 y) := Lib.hid (hr0.up (Chg.refl _ _).drew)
  have HQ1 : Hid ((w.alloc (.cells #[.int .i64 6, .int .i64 o.sec, .int .i64 o.num, .slice A1 o.dat.length cc1, .slice A2 o.lost.length cc2] 31)).drew.cell? ⟨w.heap.size, 1, none⟩ = some (.int .i64 o.sec)) := Lib.hid (cell_of_row (w.alloc (.cells #[.int .i64 6, .int .i64 o.sec, .int .i64 o.num, .slice A1 o.dat.length cc1, .slice A2 o.lost.length cc2] 31)) w.heap.size 1 _ _ _ hbox)
  have HQ3 : Hid ((w.alloc (.cells #[.int .i64 6, .int .i64 o.sec, .int .i64 o.num, .slice A1 o.dat.length cc1, .slice A2 o.lost.length cc2] 31)).drew.cell? ⟨w.heap.size, 3, none⟩ = some (.slice A1 o.dat.length cc1)) := Lib.hid (cell_of_row (w.alloc (.cells #[.int .i64 6, .int .i64 o.sec, .int .i64 o.num, .slice A1 o.dat.length cc1, .slice A2 o.lost.length cc2] 31)) w.heap.size 3 _ _ _ hbox)
  have HDAT : Hid (SlB (w.alloc (.cells #[.int .i64 6, .int .i64 o.sec, .int .i64 o.num, .slice A1 o.dat.length cc1, .slice A2 o.lost.length cc2] 31)).drew (.slice A1 o.dat.length cc1) o.dat) := Lib.hid (Src.chg h.dat hu0.drew (fun _ _ _ h => h) (by decide))
  have HU1 : Hid (Chg (OwnB p b q sv s1 s2) w (w.alloc (.cells #[.int .i64 6, .int .i64 o.sec, .int .i64 o.num, .slice A1 o.dat.length cc1, .slice A2 o.lost.length cc2] 31)).drew) := Lib.hid HU0.out.drew
  have hwy := h.wf.wf.tamper o.sec o.dat
  have hy2 := tamper_twice x o.sec o.dat
  obtain ⟨zz, hy⟩ : ∃ z, (tamperI x o.sec o.dat).1 = z := ⟨_, rfl⟩
  obtain ⟨r, hr⟩ : ∃ r, (tamperI x o.sec o.dat).2 = r := ⟨_, rfl⟩
  rw [hy, hr] at hy2
  rw [hy] at hwy ⊢
  have HY : Hid (tamperI x o.sec o.dat = (zz, r)) := Lib.hid (by rw [← hy, ← hr])
  have HY2 := Lib.hid hy2
  have HWY := Lib.hid hwy
  clear hu0 hbox hd0 hr0 h hwy hy2 hy hr HU0
  go_enter Try.func41, Try.ntmps41
  rw [hkind]
  go_wp2_with fail
  refine MT.region_mono (TExt p b sv x zz k) [fun v _ => v = .pointer (some ⟨p, 0, none⟩),
      fun v _ => v = .pointer (some ⟨w.heap.size, 1, none⟩),
      fun v _ => v = .int .i64 o.sec,
      fun v _ => v = .pointer (some ⟨w.heap.size, 3, none⟩),
      fun v _ => v = .slice A1 o.dat.length cc1,
      fun v W => v = .int .i64 r ∧ DskV W p b sv zz k,
      fun v _ => v = .pointer (some ⟨q, 0, none⟩),
      fun v _ => v = .pointer (some ⟨w.heap.size, 1, none⟩),
      fun v _ => v = .int .i64 o.sec,
      fun v _ => v = .pointer (some ⟨w.heap.size, 3, none⟩),
      fun v _ => v = .slice A1 o.dat.length cc1] (by kernel_rfl) (by kernel_rfl) TExt.refl (fun _ _ _ => TExt.trans) (by simp) ?_ ?_ ?_
  · simp only [List.forall_mem_cons]
    exact ⟨fun _ _ _ _ _ h => h, fun _ _ _ _ _ h => h, fun _ _ _ _ _ h => h, fun _ _ _ _ _ h => h, fun _ _ _ _ _ h => h, fun _ _ _ _ hu h => ⟨h.1, hu.2.2 h.2⟩, fun _ _ _ _ _ h => h, fun _ _ _ _ _ h => h, fun _ _ _ _ _ h => h, fun _ _ _ _ _ h => h, fun _ _ _ _ _ h => h, by simp⟩
  · refine ⟨?_, ?_, ?_, ?_, ?_, ?_, ?_, ?_, ?_, ?_, ?_, trivial⟩
    · intro ρ w1 hw h0 hc hg hf hd
      have s0 : ρ (.tmp 0) = .pointer (some ⟨p, 0, none⟩) := h0 0 (by kernel_rfl)
      refine ⟨fun _ => ?_, fun h => by cases h⟩
      clear h0 hg hd
      exact gives_move rfl ⟨TExt.refl _, s0⟩
    · intro ρ w1 hw h0 hc hg hf hd
      have s5 : ρ (.tmp 5) = .pointer (some ⟨w.heap.size, 0, none⟩) := h0 5 (by kernel_rfl)
      refine ⟨fun _ => ?_, fun h => by cases h⟩
      clear h0 hg hd
      clear hf hc
      refine Gives.value (w' := w1) ?_ ⟨TExt.refl _, rfl⟩
      go_simp
    · intro ρ w1 hw h0 hc hg hf hd
      have d1 := hd ⟨1, .data⟩ (by simp) rfl _ _ _ rfl rfl rfl
      refine ⟨fun _ => ?_, fun h => by cases h⟩
      clear h0 hg hd
      clear hc hf
      have c1 := hw.1.cell HQ1.out (fun h => by have := HH.out.d.lt _ h; dsimp only at this; omega)
      refine Gives.value (w' := w1) ?_ ⟨TExt.refl _, rfl⟩
      go_simp
    · intro ρ w1 hw h0 hc hg hf hd
      have s5 : ρ (.tmp 5) = .pointer (some ⟨w.heap.size, 0, none⟩) := h0 5 (by kernel_rfl)
      refine ⟨fun _ => ?_, fun h => by cases h⟩
      clear h0 hg hd
      clear hf hc
      refine Gives.value (w' := w1) ?_ ⟨TExt.refl _, rfl⟩
      go_simp
    · intro ρ w1 hw h0 hc hg hf hd
      have d3 := hd ⟨3, .data⟩ (by simp) rfl _ _ _ rfl rfl rfl
      refine ⟨fun _ => ?_, fun h => by cases h⟩
      clear h0 hg hd
      clear hc hf
      have c1 := hw.1.cell HQ3.out (fun h => by have := HH.out.d.lt _ h; dsimp only at this; omega)
      refine Gives.value (w' := w1) ?_ ⟨TExt.refl _, rfl⟩
      go_simp
    · intro ρ w1 hw h0 hc hg hf hd
      have d0 := hd ⟨0, .data⟩ (by simp) rfl _ _ _ rfl rfl rfl
      have d2 := hd ⟨2, .data⟩ (by simp) rfl _ _ _ rfl rfl rfl
      have d4 := hd ⟨4, .data⟩ (by simp) rfl _ _ _ rfl rfl rfl
      refine ⟨fun _ => ?_, fun h => by cases h⟩
      clear h0 hg hd
      have hsd := Src.chg HDAT.out hw.1 (fun g hg h0 hn => HH.out.sp1 g hg h0 (.inl hn)) (by decide)
      refine gives_call rfl hf Try.func23 rfl (by kernel_rfl) (args := #[.pointer (some ⟨p, 0, none⟩), .int .i64 o.sec, .slice A1 o.dat.length cc1]) (by simp [d0, d2, d4]) ?_
      rcases hw.2.1 HD0.out with hdx | hdx
      · have hv := vtamper w1 p b sv x k hdx HH.out.wf.wf o.sec _ o.dat hsd (by have := HH.out.n1; omega)
        rw [HY.out] at hv
        refine hv.mono ?_
        rintro e w2 ⟨rfl, hd2, hc2⟩
        exact ⟨_, rfl, ⟨hc2, fun _ => .inr hd2, fun _ => hd2⟩, rfl, hd2⟩
      · have hv := vtamper w1 p b sv zz k hdx HWY.out o.sec _ o.dat hsd (by have := HH.out.n1; omega)
        rw [HY2.out] at hv
        refine hv.mono ?_
        rintro e w2 ⟨rfl, hd2, hc2⟩
        exact ⟨_, rfl, ⟨hc2, fun _ => .inr hd2, fun _ => hd2⟩, rfl, hd2⟩
    · intro ρ w1 hw h0 hc hg hf hd
      have s1 : ρ (.tmp 1) = .pointer (some ⟨q, 0, none⟩) := h0 1 (by kernel_rfl)
      refine ⟨fun _ => ?_, fun h => by cases h⟩
      clear h0 hg hd
      exact gives_move rfl ⟨TExt.refl _, s1⟩
    · intro ρ w1 hw h0 hc hg hf hd
      have s5 : ρ (.tmp 5) = .pointer (some ⟨w.heap.size, 0, none⟩) := h0 5 (by kernel_rfl)
      refine ⟨fun _ => ?_, fun h => by cases h⟩
      clear h0 hg hd
      clear hf hc
      refine Gives.value (w' := w1) ?_ ⟨TExt.refl _, rfl⟩
      go_simp
    · intro ρ w1 hw h0 hc hg hf hd
      have d7 := hd ⟨7, .data⟩ (by simp) rfl _ _ _ rfl rfl rfl
      refine ⟨fun _ => ?_, fun h => by cases h⟩
      clear h0 hg hd
      clear hc hf
      have c1 := hw.1.cell HQ1.out (fun h => by have := HH.out.d.lt _ h; dsimp only at this; omega)
      refine Gives.value (w' := w1) ?_ ⟨TExt.refl _, rfl⟩
      go_simp
    · intro ρ w1 hw h0 hc hg hf hd
      have s5 : ρ (.tmp 5) = .pointer (some ⟨w.heap.size, 0, none⟩) := h0 5 (by kernel_rfl)
      refine ⟨fun _ => ?_, fun h => by cases h⟩
      clear h0 hg hd
      clear hf hc
      refine Gives.value (w' := w1) ?_ ⟨TExt.refl _, rfl⟩
      go_simp
    · intro ρ w1 hw h0 hc hg hf hd
      have d9 := hd ⟨9, .data⟩ (by simp) rfl _ _ _ rfl rfl rfl
      refine ⟨fun _ => ?_, fun h => by cases h⟩
      clear h0 hg hd
      clear hc hf
      have c1 := hw.1.cell HQ3.out (fun h => by have := HH.out.d.lt _ h; dsimp only at this; omega)
      refine Gives.value (w' := w1) ?_ ⟨TExt.refl _, rfl⟩
      go_simp
  · intro vs w2 hw hr
    have h5 := hr 5 _ rfl
    have h6 := hr 6 _ rfl
    have h8 := hr 8 _ rfl
    have h10 := hr 10 _ rfl
    clear hr
    dsimp only [putsL, restL]
    simp only [Act.put, List.setIfInBounds_toArray, List.set_cons_zero, List.set_cons_succ]
    obtain ⟨h5, hd2⟩ := h5
    simp only [Nat.zero_add, Nat.reduceAdd]
    rw [h5, h6, h8, h10]
    have hr2 := HR0.out.keepD HD0.out hw.1
    have hsd2 := Src.chg HDAT.out hw.1 (fun g hg h0 hn => HH.out.sp1 g hg h0 (.inl hn)) (by decide)
    have hxt := xtamper w2 q s1 s2 y 0 hr2 HH.out.wf2 o.sec HH.out.ok.2.1 _ o.dat hsd2
    obtain ⟨r2, hr22⟩ : ∃ r, (tamperI y o.sec o.dat).2 = r := ⟨_, rfl⟩
    rw [hr22] at hxt
    clear hr22
    have HXT := Lib.hid hxt
    have HX2 : Hid (DskV w2 p b sv zz k ∧ RefX w2 q s1 s2 y ∧ Chg (OwnB p b q sv s1 s2) w w2) := Lib.hid ⟨hd2, hr2, HU1.out.then hw.1 (fun i hi => .inl (.inl hi))⟩
    clear hw h5 h6 h8 h10 hd2 hr2 hsd2 hxt
    go_wp2_with fail
    refine HXT.out.mono ?_
    rintro e w3 ⟨rfl, hr3, hc3⟩
    have HD3 := Lib.hid ((HX2.out.1.keepR HX2.out.2.1 hc3).le (Nat.le_succ k))
    have HC3 := Lib.hid (HX2.out.2.2.then hc3 (fun i hi => .inl (.inr hi)))
    clear hr3 hc3 HXT
    go_wp2_with fail
    go_ret
    exact ⟨_, rfl, HD3.out, HC3.out⟩
set_option maxRecDepth 100000 in
set_option maxHeartbeats 4000000 in
theorem free3 (w : World) (p b q : Nat) (sv s1 s2 : Value) (x y : Dk) (k : Nat) (o : OpI) (d1 d2 : Value) (h : FreeAt w p b q sv s1 s2 x y k o d1 d2) (hkind : o.kind = 3) : Calls Try.prog 41 #[.pointer (some ⟨p, 0, none⟩), .pointer (some ⟨q, 0, none⟩), .agg #[.int .i64 o.kind, .int .i64 o.sec, .int .i64 o.num, d1, d2]] w (FPost w p b q sv s1 s2 (x) (k + 1)) := by
  obtain ⟨A1, cc1, rfl, x1, x2⟩ := h.dat.shape
  obtain ⟨A2, cc2, rfl, y1, y2⟩ := h.lost.shape
  have hu0 : Up w (w.alloc (.cells #[.int .i64 3, .int .i64 o.sec, .int .i64 o.num, .slice A1 o.dat.length cc1, .slice A2 o.lost.length cc2] 31)) := (Chg.refl _ w).alloc _
  have hbox := heap_alloc_last w (.cells #[.int .i64 3, .int .i64 o.sec, .int .i64 o.num, .slice A1 o.dat.length cc1, .slice A2 o.lost.length cc2] 31)
  have hd0 := h.d.up hu0
  have hr0 := h.r.up hu0
  have HH := Lib.hid h
  have HU0 : Hid (Chg (OwnB p b q sv s1 s2) w (w.alloc (.cells #[.int .i64 3, .int .i64 o.sec, .int .i64 o.num, .slice A1 o.dat.length cc1, .slice A2 o.lost.length cc2] 31))) := Lib.hid (hu0.mono (fun _ _ h => h.elim))
  have hsec := h.ok.2.1
  have hrd := vread _ p b sv x k hd0 h.wf.wf o.sec hsec
  have hnl : (readI x o.sec).1.length ≤ 1000000 := by
    unfold readI
    split
    · simp
    split
    · simp
    · exact nowI_len h.wf.wf o.sec
  obtain ⟨xs, hxs⟩ : ∃ xs, (readI x o.sec).1 = xs := ⟨_, rfl⟩
  obtain ⟨ee, hee⟩ : ∃ ee, (readI x o.sec).2 = ee := ⟨_, rfl⟩
  rw [hxs] at hnl hrd
  rw [hee] at hrd
  obtain ⟨m, hm⟩ : ∃ m, xs.length = m := ⟨_, rfl⟩
  rw [hm] at hnl hrd
  have HM := Lib.hid hm
  have HD0 := Lib.hid hd0
  have HR0 := Lib.hid hr0
  have HBOX := Lib.hid hbox
  obtain ⟨n, hn⟩ : ∃ n, y.has.length = n := ⟨_, rfl⟩
  have HN := Lib.hid hn
  have hnb := h.wf2.wf.num
  have hnum := h.wf2.num
  have hdn := h.up
  rw [hn] at hnb hnum
  obtain ⟨hsec1, hsec2⟩ := hsec
  obtain ⟨L, ar, hF, _, _⟩ := hr0
  rw [hn, hdn] at hF
  obtain ⟨g1, c1, rfl⟩ := own_some hF.r1 hnum
  obtain ⟨g2, c2, rfl⟩ := own_some hF.r2 hnum
  have HF := Lib.hid hF
  have HRD := Lib.hid hrd
  clear hu0 hbox hd0 h hF hrd hxs hee hm
  go_enter Try.func41, Try.ntmps41
  rw [hkind]
  go_wp2_with fail
  refine HRD.out.mono ?_
  rintro e w1 ⟨v, rfl, hv, hb⟩
  have hu1 := up_below hb
  have q6 := (HF.out.up hu1).c6
  obtain ⟨A3, c3, rfl⟩ := own_shape hv
  have HX1 : Hid (DskV w1 p b sv x (k + 1) ∧ Chg (OwnB p b q sv (.slice (some ⟨g1, 0, none⟩) n c1) (.slice (some ⟨g2, 0, none⟩) n c2)) w w1) := Lib.hid ⟨(HD0.out.up hu1).le (Nat.le_succ k), HU0.out.then hu1 (fun _ h => h.elim)⟩
  have HQ1 : Hid (w1.drew.cell? ⟨w.heap.size, 1, none⟩ = some (.int .i64 o.sec)) := Lib.hid (cell_of_row w1 w.heap.size 1 _ _ _ (hu1.heap HBOX.out (fun h => h)))
  have HC0 : Hid (w1.drew.cell? ⟨q, 0, none⟩ = some (.slice (some ⟨g1, 0, none⟩) n c1)) := Lib.hid (HF.out.up hu1).c0
  have HV := Lib.hid hv
  have HU1 := Lib.hid hu1
  clear hv hb hu1 HRD
  by_cases hneg : o.sec < 0
  · go_wp2_with fail
    refine MT.region_mono Up [fun v _ => v = .pointer (some ⟨w.heap.size, 1, none⟩),
        fun v _ => v = .int .i64 o.sec,
        fun v _ => v = .bool true,
        fun v _ => v = .bool true,
        fun _ _ => True,
        fun _ _ => True,
        fun _ _ => True,
        fun _ _ => True,
        fun _ _ => True,
        fun _ _ => True,
        fun _ _ => True,
        fun _ _ => True,
        fun v _ => v = .bool true] (by kernel_rfl) (by kernel_rfl) (Chg.refl _) (fun _ _ _ => Chg.trans) (by simp) ?_ ?_ ?_
    · simp only [List.forall_mem_cons]
      exact ⟨fun _ _ _ _ _ h => h, fun _ _ _ _ _ h => h, fun _ _ _ _ _ h => h, fun _ _ _ _ _ h => h, fun _ _ _ _ _ h => h, fun _ _ _ _ _ h => h, fun _ _ _ _ _ h => h, fun _ _ _ _ _ h => h, fun _ _ _ _ _ h => h, fun _ _ _ _ _ h => h, fun _ _ _ _ _ h => h, fun _ _ _ _ _ h => h, fun _ _ _ _ _ h => h, by simp⟩
    · refine ⟨?_, ?_, ?_, ?_, ?_, ?_, ?_, ?_, ?_, ?_, ?_, ?_, ?_, trivial⟩
      · intro ρ w1 hw h0 hc hg hf hd
        have s5 : ρ (.tmp 5) = .pointer (some ⟨w.heap.size, 0, none⟩) := h0 5 (by kernel_rfl)
        refine ⟨fun _ => ?_, fun h => by cases h⟩
        clear h0 hg hd
        clear hf hc
        refine Gives.value (w' := w1) ?_ ⟨Chg.refl _ _, rfl⟩
        go_simp
      · intro ρ w1 hw h0 hc hg hf hd
        have d0 := hd ⟨0, .data⟩ (by simp) rfl _ _ _ rfl rfl rfl
        refine ⟨fun _ => ?_, fun h => by cases h⟩
        clear h0 hg hd
        clear hc hf
        have c1 := hw.cell HQ1.out (fun h => h)
        refine Gives.value (w' := w1) ?_ ⟨Chg.refl _ _, rfl⟩
        go_simp
      · intro ρ w1 hw h0 hc hg hf hd
        have d1 := hd ⟨1, .data⟩ (by simp) rfl _ _ _ rfl rfl rfl
        refine ⟨fun _ => ?_, fun h => by cases h⟩
        clear h0 hg hd
        clear hf
        refine Gives.value (w' := w1) ?_ ⟨Chg.refl _ _, rfl⟩
        go_simp
      · intro ρ w1 hw h0 hc hg hf hd
        have d2 := hd ⟨2, .data⟩ (by simp) rfl _ _ _ rfl rfl rfl
        refine ⟨fun _ => ?_, fun h => by cases h⟩
        clear h0 hg hd
        exact gives_move rfl ⟨Chg.refl _ _, d2⟩
      · intro ρ w1 hw h0 hc hg hf hd
        have d3 := hd ⟨3, .guard⟩ (by simp) rfl _ _ _ rfl rfl rfl
        exact ⟨fun hx => (by rw [wantedBy_false rfl rfl rfl d3] at hx; cases hx), fun _ => trivial⟩
      · intro ρ w1 hw h0 hc hg hf hd
        have d3 := hd ⟨3, .guard⟩ (by simp) rfl _ _ _ rfl rfl rfl
        exact ⟨fun hx => (by rw [wantedBy_false rfl rfl rfl d3] at hx; cases hx), fun _ => trivial⟩
      · intro ρ w1 hw h0 hc hg hf hd
        have d3 := hd ⟨3, .guard⟩ (by simp) rfl _ _ _ rfl rfl rfl
        exact ⟨fun hx => (by rw [wantedBy_false rfl rfl rfl d3] at hx; cases hx), fun _ => trivial⟩
      · intro ρ w1 hw h0 hc hg hf hd
        have d3 := hd ⟨3, .guard⟩ (by simp) rfl _ _ _ rfl rfl rfl
        exact ⟨fun hx => (by rw [wantedBy_false rfl rfl rfl d3] at hx; cases hx), fun _ => trivial⟩
      · intro ρ w1 hw h0 hc hg hf hd
        have d3 := hd ⟨3, .guard⟩ (by simp) rfl _ _ _ rfl rfl rfl
        exact ⟨fun hx => (by rw [wantedBy_false rfl rfl rfl d3] at hx; cases hx), fun _ => trivial⟩
      · intro ρ w1 hw h0 hc hg hf hd
        have d3 := hd ⟨3, .guard⟩ (by simp) rfl _ _ _ rfl rfl rfl
        exact ⟨fun hx => (by rw [wantedBy_false rfl rfl rfl d3] at hx; cases hx), fun _ => trivial⟩
      · intro ρ w1 hw h0 hc hg hf hd
        have d3 := hd ⟨3, .guard⟩ (by simp) rfl _ _ _ rfl rfl rfl
        exact ⟨fun hx => (by rw [wantedBy_false rfl rfl rfl d3] at hx; cases hx), fun _ => trivial⟩
      · intro ρ w1 hw h0 hc hg hf hd
        have d3 := hd ⟨3, .guard⟩ (by simp) rfl _ _ _ rfl rfl rfl
        exact ⟨fun hx => (by rw [wantedBy_false rfl rfl rfl d3] at hx; cases hx), fun _ => trivial⟩
      · intro ρ w1 hw h0 hc hg hf hd
        have d3 := hd ⟨3, .data⟩ (by simp) rfl _ _ _ rfl rfl rfl
        have d11 := hd ⟨11, .data⟩ (by simp) rfl _ _ _ rfl rfl rfl
        refine ⟨fun _ => ?_, fun h => by cases h⟩
        clear h0 hg hd
        refine Gives.value (w' := w1) ?_ ⟨Chg.refl _ _, rfl⟩
        go_simp
    · intro vs w2 hw hr
      have h12 := hr 12 _ rfl
      clear hr
      dsimp only [putsL, restL]
      simp only [Act.put, List.setIfInBounds_toArray, List.set_cons_zero, List.set_cons_succ]
      simp only [Nat.zero_add, Nat.reduceAdd]
      rw [h12]
      have HX2 : Hid (DskV w2 p b sv x (k + 1) ∧ Chg (OwnB p b q sv (.slice (some ⟨g1, 0, none⟩) n c1) (.slice (some ⟨g2, 0, none⟩) n c2)) w w2) := Lib.hid (by
        have hu2 : Up w1 w2 := (Chg.refl (fun _ => False) w1).drew.trans hw
        exact ⟨HX1.out.1.up hu2, HX1.out.2.then hu2 (fun _ h => h.elim)⟩)
      clear hw h12 HX1
      by_cases he : ee = 11
      · have he' : (ee == 11) = true := by rw [beq_iff_eq]; exact he
        go_wp2_with fail
        go_ret
        exact ⟨_, rfl, HX2.out⟩
      · have he' : (ee == 11) = false := by rw [beq_eq_false_iff_ne]; exact he
        go_wp2_with fail
        go_ret
        exact ⟨_, rfl, HX2.out⟩
  by_cases hov : (n : Int) ≤ o.sec
  · go_wp2_with fail
    refine MT.region_mono Up [fun v _ => v = .pointer (some ⟨w.heap.size, 1, none⟩),
        fun v _ => v = .int .i64 o.sec,
        fun v _ => v = .bool false,
        fun v _ => v = .bool false,
        fun v _ => v = .pointer (some ⟨w.heap.size, 1, none⟩),
        fun v _ => v = .int .i64 o.sec,
        fun v _ => v = .pointer (some ⟨q, 0, none⟩),
        fun v _ => v = .pointer (some ⟨q, 0, none⟩),
        fun v _ => v = .pointer (some ⟨q, 0, none⟩),
        fun v _ => v = .slice (some ⟨g1, 0, none⟩) n c1,
        fun v _ => v = .int .i64 (n : Int),
        fun v _ => v = .bool true,
        fun v _ => v = .bool true] (by kernel_rfl) (by kernel_rfl) (Chg.refl _) (fun _ _ _ => Chg.trans) (by simp) ?_ ?_ ?_
    · simp only [List.forall_mem_cons]
      exact ⟨fun _ _ _ _ _ h => h, fun _ _ _ _ _ h => h, fun _ _ _ _ _ h => h, fun _ _ _ _ _ h => h, fun _ _ _ _ _ h => h, fun _ _ _ _ _ h => h, fun _ _ _ _ _ h => h, fun _ _ _ _ _ h => h, fun _ _ _ _ _ h => h, fun _ _ _ _ _ h => h, fun _ _ _ _ _ h => h, fun _ _ _ _ _ h => h, fun _ _ _ _ _ h => h, by simp⟩
    · refine ⟨?_, ?_, ?_, ?_, ?_, ?_, ?_, ?_, ?_, ?_, ?_, ?_, ?_, trivial⟩
      · intro ρ w1 hw h0 hc hg hf hd
        have s5 : ρ (.tmp 5) = .pointer (some ⟨w.heap.size, 0, none⟩) := h0 5 (by kernel_rfl)
        refine ⟨fun _ => ?_, fun h => by cases h⟩
        clear h0 hg hd
        clear hf hc
        refine Gives.value (w' := w1) ?_ ⟨Chg.refl _ _, rfl⟩
        go_simp
      · intro ρ w1 hw h0 hc hg hf hd
        have d0 := hd ⟨0, .data⟩ (by simp) rfl _ _ _ rfl rfl rfl
        refine ⟨fun _ => ?_, fun h => by cases h⟩
        clear h0 hg hd
        clear hc hf
        have c1 := hw.cell HQ1.out (fun h => h)
        refine Gives.value (w' := w1) ?_ ⟨Chg.refl _ _, rfl⟩
        go_simp
      · intro ρ w1 hw h0 hc hg hf hd
        have d1 := hd ⟨1, .data⟩ (by simp) rfl _ _ _ rfl rfl rfl
        refine ⟨fun _ => ?_, fun h => by cases h⟩
        clear h0 hg hd
        clear hf
        refine Gives.value (w' := w1) ?_ ⟨Chg.refl _ _, rfl⟩
        go_simp
      · intro ρ w1 hw h0 hc hg hf hd
        have d2 := hd ⟨2, .data⟩ (by simp) rfl _ _ _ rfl rfl rfl
        refine ⟨fun _ => ?_, fun h => by cases h⟩
        clear h0 hg hd
        exact gives_move rfl ⟨Chg.refl _ _, d2⟩
      · intro ρ w1 hw h0 hc hg hf hd
        have d3 := hd ⟨3, .guard⟩ (by simp) rfl _ _ _ rfl rfl rfl
        have s5 : ρ (.tmp 5) = .pointer (some ⟨w.heap.size, 0, none⟩) := h0 5 (by kernel_rfl)
        refine ⟨fun _ => ?_, fun h => by rw [wantedBy_true rfl rfl rfl d3] at h; cases h⟩
        clear d3
        clear h0 hg hd
        clear hf hc
        refine Gives.value (w' := w1) ?_ ⟨Chg.refl _ _, rfl⟩
        go_simp
      · intro ρ w1 hw h0 hc hg hf hd
        have d4 := hd ⟨4, .data⟩ (by simp) rfl _ _ _ rfl rfl rfl
        have d3 := hd ⟨3, .guard⟩ (by simp) rfl _ _ _ rfl rfl rfl
        refine ⟨fun _ => ?_, fun h => by rw [wantedBy_true rfl rfl rfl d3] at h; cases h⟩
        clear d3
        clear h0 hg hd
        clear hc hf
        have c1 := hw.cell HQ1.out (fun h => h)
        refine Gives.value (w' := w1) ?_ ⟨Chg.refl _ _, rfl⟩
        go_simp
      · intro ρ w1 hw h0 hc hg hf hd
        have d3 := hd ⟨3, .guard⟩ (by simp) rfl _ _ _ rfl rfl rfl
        have s1 : ρ (.tmp 1) = .pointer (some ⟨q, 0, none⟩) := h0 1 (by kernel_rfl)
        refine ⟨fun _ => ?_, fun h => by rw [wantedBy_true rfl rfl rfl d3] at h; cases h⟩
        clear d3
        clear h0 hg hd
        exact gives_move rfl ⟨Chg.refl _ _, s1⟩
      · intro ρ w1 hw h0 hc hg hf hd
        have d6 := hd ⟨6, .data⟩ (by simp) rfl _ _ _ rfl rfl rfl
        have d3 := hd ⟨3, .guard⟩ (by simp) rfl _ _ _ rfl rfl rfl
        refine ⟨fun _ => ?_, fun h => by rw [wantedBy_true rfl rfl rfl d3] at h; cases h⟩
        clear d3
        clear h0 hg hd
        clear hf
        refine Gives.value (w' := w1) ?_ ⟨Chg.refl _ _, rfl⟩
        go_simp
      · intro ρ w1 hw h0 hc hg hf hd
        have d7 := hd ⟨7, .data⟩ (by simp) rfl _ _ _ rfl rfl rfl
        have d3 := hd ⟨3, .guard⟩ (by simp) rfl _ _ _ rfl rfl rfl
        refine ⟨fun _ => ?_, fun h => by rw [wantedBy_true rfl rfl rfl d3] at h; cases h⟩
        clear d3
        clear h0 hg hd
        clear hf
        refine Gives.value (w' := w1) ?_ ⟨Chg.refl _ _, rfl⟩
        go_simp
      · intro ρ w1 hw h0 hc hg hf hd
        have d8 := hd ⟨8, .data⟩ (by simp) rfl _ _ _ rfl rfl rfl
        have d3 := hd ⟨3, .guard⟩ (by simp) rfl _ _ _ rfl rfl rfl
        refine ⟨fun _ => ?_, fun h => by rw [wantedBy_true rfl rfl rfl d3] at h; cases h⟩
        clear d3
        clear h0 hg hd
        clear hc hf
        have c1 := hw.cell HC0.out (fun h => h)
        refine Gives.value (w' := w1) ?_ ⟨Chg.refl _ _, rfl⟩
        go_simp
      · intro ρ w1 hw h0 hc hg hf hd
        have d9 := hd ⟨9, .data⟩ (by simp) rfl _ _ _ rfl rfl rfl
        have d3 := hd ⟨3, .guard⟩ (by simp) rfl _ _ _ rfl rfl rfl
        refine ⟨fun _ => ?_, fun h => by rw [wantedBy_true rfl rfl rfl d3] at h; cases h⟩
        clear d3
        clear h0 hg hd
        clear hf
        refine Gives.value (w' := w1) ?_ ⟨Chg.refl _ _, rfl⟩
        go_simp
      · intro ρ w1 hw h0 hc hg hf hd
        have d5 := hd ⟨5, .data⟩ (by simp) rfl _ _ _ rfl rfl rfl
        have d10 := hd ⟨10, .data⟩ (by simp) rfl _ _ _ rfl rfl rfl
        have d3 := hd ⟨3, .guard⟩ (by simp) rfl _ _ _ rfl rfl rfl
        refine ⟨fun _ => ?_, fun h => by rw [wantedBy_true rfl rfl rfl d3] at h; cases h⟩
        clear d3
        clear h0 hg hd
        clear hf
        refine Gives.value (w' := w1) ?_ ⟨Chg.refl _ _, rfl⟩
        go_simp
      · intro ρ w1 hw h0 hc hg hf hd
        have d3 := hd ⟨3, .data⟩ (by simp) rfl _ _ _ rfl rfl rfl
        have d11 := hd ⟨11, .data⟩ (by simp) rfl _ _ _ rfl rfl rfl
        refine ⟨fun _ => ?_, fun h => by cases h⟩
        clear h0 hg hd
        refine Gives.value (w' := w1) ?_ ⟨Chg.refl _ _, rfl⟩
        go_simp
    · intro vs w2 hw hr
      have h12 := hr 12 _ rfl
      clear hr
      dsimp only [putsL, restL]
      simp only [Act.put, List.setIfInBounds_toArray, List.set_cons_zero, List.set_cons_succ]
      simp only [Nat.zero_add, Nat.reduceAdd]
      rw [h12]
      have HX2 : Hid (DskV w2 p b sv x (k + 1) ∧ Chg (OwnB p b q sv (.slice (some ⟨g1, 0, none⟩) n c1) (.slice (some ⟨g2, 0, none⟩) n c2)) w w2) := Lib.hid (by
        have hu2 : Up w1 w2 := (Chg.refl (fun _ => False) w1).drew.trans hw
        exact ⟨HX1.out.1.up hu2, HX1.out.2.then hu2 (fun _ h => h.elim)⟩)
      clear hw h12 HX1
      by_cases he : ee = 11
      · have he' : (ee == 11) = true := by rw [beq_iff_eq]; exact he
        go_wp2_with fail
        go_ret
        exact ⟨_, rfl, HX2.out⟩
      · have he' : (ee == 11) = false := by rw [beq_eq_false_iff_ne]; exact he
        go_wp2_with fail
        go_ret
        exact ⟨_, rfl, HX2.out⟩
  obtain ⟨i, hi⟩ : ∃ i : Nat, o.sec = i := ⟨o.sec.toNat, by omega⟩
  have HI := Lib.hid hi
  clear hi
  go_wp2_with fail
  refine MT.region_mono Up [fun v _ => v = .pointer (some ⟨w.heap.size, 1, none⟩),
      fun v _ => v = .int .i64 o.sec,
      fun v _ => v = .bool false,
      fun v _ => v = .bool false,
      fun v _ => v = .pointer (some ⟨w.heap.size, 1, none⟩),
      fun v _ => v = .int .i64 o.sec,
      fun v _ => v = .pointer (some ⟨q, 0, none⟩),
      fun v _ => v = .pointer (some ⟨q, 0, none⟩),
      fun v _ => v = .pointer (some ⟨q, 0, none⟩),
      fun v _ => v = .slice (some ⟨g1, 0, none⟩) n c1,
      fun v _ => v = .int .i64 (n : Int),
      fun v _ => v = .bool false,
      fun v _ => v = .bool false] (by kernel_rfl) (by kernel_rfl) (Chg.refl _) (fun _ _ _ => Chg.trans) (by simp) ?_ ?_ ?_
  · simp only [List.forall_mem_cons]
    exact ⟨fun _ _ _ _ _ h => h, fun _ _ _ _ _ h => h, fun _ _ _ _ _ h => h, fun _ _ _ _ _ h => h, fun _ _ _ _ _ h => h, fun _ _ _ _ _ h => h, fun _ _ _ _ _ h => h, fun _ _ _ _ _ h => h, fun _ _ _ _ _ h => h, fun _ _ _ _ _ h => h, fun _ _ _ _ _ h => h, fun _ _ _ _ _ h => h, fun _ _ _ _ _ h => h, by simp⟩
  · refine ⟨?_, ?_, ?_, ?_, ?_, ?_, ?_, ?_, ?_, ?_, ?_, ?_, ?_, trivial⟩
    · intro ρ w1 hw h0 hc hg hf hd
      have s5 : ρ (.tmp 5) = .pointer (some ⟨w.heap.size, 0, none⟩) := h0 5 (by kernel_rfl)
      refine ⟨fun _ => ?_, fun h => by cases h⟩
      clear h0 hg hd
      clear hf hc
      refine Gives.value (w' := w1) ?_ ⟨Chg.refl _ _, rfl⟩
      go_simp
    · intro ρ w1 hw h0 hc hg hf hd
      have d0 := hd ⟨0, .data⟩ (by simp) rfl _ _ _ rfl rfl rfl
      refine ⟨fun _ => ?_, fun h => by cases h⟩
      clear h0 hg hd
      clear hc hf
      have c1 := hw.cell HQ1.out (fun h => h)
      refine Gives.value (w' := w1) ?_ ⟨Chg.refl _ _, rfl⟩
      go_simp
    · intro ρ w1 hw h0 hc hg hf hd
      have d1 := hd ⟨1, .data⟩ (by simp) rfl _ _ _ rfl rfl rfl
      refine ⟨fun _ => ?_, fun h => by cases h⟩
      clear h0 hg hd
      clear hf
      refine Gives.value (w' := w1) ?_ ⟨Chg.refl _ _, rfl⟩
      go_simp
    · intro ρ w1 hw h0 hc hg hf hd
      have d2 := hd ⟨2, .data⟩ (by simp) rfl _ _ _ rfl rfl rfl
      refine ⟨fun _ => ?_, fun h => by cases h⟩
      clear h0 hg hd
      exact gives_move rfl ⟨Chg.refl _ _, d2⟩
    · intro ρ w1 hw h0 hc hg hf hd
      have d3 := hd ⟨3, .guard⟩ (by simp) rfl _ _ _ rfl rfl rfl
      have s5 : ρ (.tmp 5) = .pointer (some ⟨w.heap.size, 0, none⟩) := h0 5 (by kernel_rfl)
      refine ⟨fun _ => ?_, fun h => by rw [wantedBy_true rfl rfl rfl d3] at h; cases h⟩
      clear d3
      clear h0 hg hd
      clear hf hc
      refine Gives.value (w' := w1) ?_ ⟨Chg.refl _ _, rfl⟩
      go_simp
    · intro ρ w1 hw h0 hc hg hf hd
      have d4 := hd ⟨4, .data⟩ (by simp) rfl _ _ _ rfl rfl rfl
      have d3 := hd ⟨3, .guard⟩ (by simp) rfl _ _ _ rfl rfl rfl
      refine ⟨fun _ => ?_, fun h => by rw [wantedBy_true rfl rfl rfl d3] at h; cases h⟩
      clear d3
      clear h0 hg hd
      clear hc hf
      have c1 := hw.cell HQ1.out (fun h => h)
      refine Gives.value (w' := w1) ?_ ⟨Chg.refl _ _, rfl⟩
      go_simp
    · intro ρ w1 hw h0 hc hg hf hd
      have d3 := hd ⟨3, .guard⟩ (by simp) rfl _ _ _ rfl rfl rfl
      have s1 : ρ (.tmp 1) = .pointer (some ⟨q, 0, none⟩) := h0 1 (by kernel_rfl)
      refine ⟨fun _ => ?_, fun h => by rw [wantedBy_true rfl rfl rfl d3] at h; cases h⟩
      clear d3
      clear h0 hg hd
      exact gives_move rfl ⟨Chg.refl _ _, s1⟩
    · intro ρ w1 hw h0 hc hg hf hd
      have d6 := hd ⟨6, .data⟩ (by simp) rfl _ _ _ rfl rfl rfl
      have d3 := hd ⟨3, .guard⟩ (by simp) rfl _ _ _ rfl rfl rfl
      refine ⟨fun _ => ?_, fun h => by rw [wantedBy_true rfl rfl rfl d3] at h; cases h⟩
      clear d3
      clear h0 hg hd
      clear hf
      refine Gives.value (w' := w1) ?_ ⟨Chg.refl _ _, rfl⟩
      go_simp
    · intro ρ w1 hw h0 hc hg hf hd
      have d7 := hd ⟨7, .data⟩ (by simp) rfl _ _ _ rfl rfl rfl
      have d3 := hd ⟨3, .guard⟩ (by simp) rfl _ _ _ rfl rfl rfl
      refine ⟨fun _ => ?_, fun h => by rw [wantedBy_true rfl rfl rfl d3] at h; cases h⟩
      clear d3
      clear h0 hg hd
      clear hf
      refine Gives.value (w' := w1) ?_ ⟨Chg.refl _ _, rfl⟩
      go_simp
    · intro ρ w1 hw h0 hc hg hf hd
      have d8 := hd ⟨8, .data⟩ (by simp) rfl _ _ _ rfl rfl rfl
      have d3 := hd ⟨3, .guard⟩ (by simp) rfl _ _ _ rfl rfl rfl
      refine ⟨fun _ => ?_, fun h => by rw [wantedBy_true rfl rfl rfl d3] at h; cases h⟩
      clear d3
      clear h0 hg hd
      clear hc hf
      have c1 := hw.cell HC0.out (fun h => h)
      refine Gives.value (w' := w1) ?_ ⟨Chg.refl _ _, rfl⟩
      go_simp
    · intro ρ w1 hw h0 hc hg hf hd
      have d9 := hd ⟨9, .data⟩ (by simp) rfl _ _ _ rfl rfl rfl
      have d3 := hd ⟨3, .guard⟩ (by simp) rfl _ _ _ rfl rfl rfl
      refine ⟨fun _ => ?_, fun h => by rw [wantedBy_true rfl rfl rfl d3] at h; cases h⟩
      clear d3
      clear h0 hg hd
      clear hf
      refine Gives.value (w' := w1) ?_ ⟨Chg.refl _ _, rfl⟩
      go_simp
    · intro ρ w1 hw h0 hc hg hf hd
      have d5 := hd ⟨5, .data⟩ (by simp) rfl _ _ _ rfl rfl rfl
      have d10 := hd ⟨10, .data⟩ (by simp) rfl _ _ _ rfl rfl rfl
      have d3 := hd ⟨3, .guard⟩ (by simp) rfl _ _ _ rfl rfl rfl
      refine ⟨fun _ => ?_, fun h => by rw [wantedBy_true rfl rfl rfl d3] at h; cases h⟩
      clear d3
      clear h0 hg hd
      clear hf
      refine Gives.value (w' := w1) ?_ ⟨Chg.refl _ _, rfl⟩
      go_simp
    · intro ρ w1 hw h0 hc hg hf hd
      have d3 := hd ⟨3, .data⟩ (by simp) rfl _ _ _ rfl rfl rfl
      have d11 := hd ⟨11, .data⟩ (by simp) rfl _ _ _ rfl rfl rfl
      refine ⟨fun _ => ?_, fun h => by cases h⟩
      clear h0 hg hd
      refine Gives.value (w' := w1) ?_ ⟨Chg.refl _ _, rfl⟩
      go_simp
  · intro vs w2 hw hr
    have h12 := hr 12 _ rfl
    clear hr
    dsimp only [putsL, restL]
    simp only [Act.put, List.setIfInBounds_toArray, List.set_cons_zero, List.set_cons_succ]
    simp only [Nat.zero_add, Nat.reduceAdd]
    rw [h12]
    have hu2 : Up w1 w2 := (Chg.refl (fun _ => False) w1).drew.trans hw
    have HU2 := Lib.hid (HU1.out.trans hu2)
    have HV2 := Lib.hid (own_chg HV.out hu2 (fun _ _ h => h))
    have HSL : Hid (SlB w2.drew (.slice A3 m c3) xs) := Lib.hid (by
      have := HV2.out
      rw [← HM.out] at this ⊢
      exact slb_of this)
    have HR2 : Hid (RefX w2.drew q (.slice (some ⟨g1, 0, none⟩) n c1) (.slice (some ⟨g2, 0, none⟩) n c2) y) := Lib.hid ((HR0.out.up HU2.out).up (Chg.refl _ _).drew)
    have HQ1' : Hid (w2.drew.cell? ⟨w.heap.size, 1, none⟩ = some (.int .i64 (i : Int))) := Lib.hid (by rw [← HI.out]; exact hw.cell HQ1.out (fun h => h))
    obtain ⟨s0, hs0⟩ : ∃ s, strOfNums xs = s := ⟨_, rfl⟩
    have HS0 := Lib.hid hs0
    obtain ⟨sy, hsy⟩ : ∃ s, strOfNums (nowI y i) = s := ⟨_, rfl⟩
    have HSY := Lib.hid hsy
    clear hw h12 hu2 HQ1 HC0 hs0 hsy q6 HV HU1
    rename Hid (w2.drew.cell? ⟨w.heap.size, 1, none⟩ = some (.int .i64 (i : Int))) => HQ1
    have hi2 : i < n := by have := HI.out; omega
    clear hneg hov
    go_wp2_with fail
    refine MT.region_mono Up [fun v _ => v = .slice A3 m c3,
        fun v _ => v = .string s0,
        fun v _ => v = .pointer (some ⟨q, 0, none⟩),
        fun v _ => v = .pointer (some ⟨w.heap.size, 1, none⟩),
        fun v _ => v = .int .i64 (i : Int),
        fun v _ => v = .string sy,
        fun v _ => v = .bool (s0.toList == sy.toList),
        fun v _ => v = .bool (s0.toList == sy.toList)] (by kernel_rfl) (by kernel_rfl) (Chg.refl _) (fun _ _ _ => Chg.trans) (by simp) ?_ ?_ ?_
    · simp only [List.forall_mem_cons]
      exact ⟨fun _ _ _ _ _ h => h, fun _ _ _ _ _ h => h, fun _ _ _ _ _ h => h, fun _ _ _ _ _ h => h, fun _ _ _ _ _ h => h, fun _ _ _ _ _ h => h, fun _ _ _ _ _ h => h, fun _ _ _ _ _ h => h, by simp⟩
    · refine ⟨?_, ?_, ?_, ?_, ?_, ?_, ?_, ?_, trivial⟩
      · intro ρ w1 hw h0 hc hg hf hd
        have s11 : ρ (.tmp 11) = .slice A3 m c3 := h0 11 (by kernel_rfl)
        refine ⟨fun _ => ?_, fun h => by cases h⟩
        clear h0 hg hd
        exact gives_move rfl ⟨Chg.refl _ _, s11⟩
      · intro ρ w1 hw h0 hc hg hf hd
        have d0 := hd ⟨0, .data⟩ (by simp) rfl _ _ _ rfl rfl rfl
        refine ⟨fun _ => ?_, fun h => by cases h⟩
        clear h0 hg hd
        rw [← HS0.out]
        exact gives_string rfl (by rw [d0]; exact Src.chg HSL.out hw (fun _ _ _ h => h) (by decide)) ⟨Chg.refl _ _, rfl⟩
      · intro ρ w1 hw h0 hc hg hf hd
        have s1 : ρ (.tmp 1) = .pointer (some ⟨q, 0, none⟩) := h0 1 (by kernel_rfl)
        refine ⟨fun _ => ?_, fun h => by cases h⟩
        clear h0 hg hd
        exact gives_move rfl ⟨Chg.refl _ _, s1⟩
      · intro ρ w1 hw h0 hc hg hf hd
        have s5 : ρ (.tmp 5) = .pointer (some ⟨w.heap.size, 0, none⟩) := h0 5 (by kernel_rfl)
        refine ⟨fun _ => ?_, fun h => by cases h⟩
        clear h0 hg hd
        clear hf hc
        refine Gives.value (w' := w1) ?_ ⟨Chg.refl _ _, rfl⟩
        go_simp
      · intro ρ w1 hw h0 hc hg hf hd
        have d3 := hd ⟨3, .data⟩ (by simp) rfl _ _ _ rfl rfl rfl
        refine ⟨fun _ => ?_, fun h => by cases h⟩
        clear h0 hg hd
        clear hc hf
        have c1 := hw.cell HQ1.out (fun h => h)
        refine Gives.value (w' := w1) ?_ ⟨Chg.refl _ _, rfl⟩
        go_simp
      · intro ρ w1 hw h0 hc hg hf hd
        have d2 := hd ⟨2, .data⟩ (by simp) rfl _ _ _ rfl rfl rfl
        have d4 := hd ⟨4, .data⟩ (by simp) rfl _ _ _ rfl rfl rfl
        refine ⟨fun _ => ?_, fun h => by cases h⟩
        clear h0 hg hd
        rw [← HSY.out]
        refine gives_call rfl hf Try.func44 rfl (by kernel_rfl) (args := #[.pointer (some ⟨q, 0, none⟩), .int .i64 (i : Int)]) (by simp [d2, d4]) ((xnow w1 q _ _ y 0 (HR2.out.up hw) HH.out.wf2 i (by rw [HN.out]; omega)).mono ?_)
        rintro e w2 ⟨rfl, rfl⟩
        exact ⟨_, rfl, Chg.refl _ _, rfl⟩
      · intro ρ w1 hw h0 hc hg hf hd
        have d1 := hd ⟨1, .data⟩ (by simp) rfl _ _ _ rfl rfl rfl
        have d5 := hd ⟨5, .data⟩ (by simp) rfl _ _ _ rfl rfl rfl
        refine ⟨fun _ => ?_, fun h => by cases h⟩
        clear h0 hg hd
        clear hf hc
        refine Gives.value (w' := w1) ?_ ⟨Chg.refl _ _, rfl⟩
        go_simp
      · intro ρ w1 hw h0 hc hg hf hd
        have d6 := hd ⟨6, .data⟩ (by simp) rfl _ _ _ rfl rfl rfl
        refine ⟨fun _ => ?_, fun h => by cases h⟩
        clear h0 hg hd
        clear hf hc
        refine Gives.value (w' := w1) ?_ ⟨Chg.refl _ _, rfl⟩
        go_simp
    · intro vs w3 hw hr
      have h7 := hr 7 _ rfl
      clear hr
      dsimp only [putsL, restL]
      simp only [Act.put, List.setIfInBounds_toArray, List.set_cons_zero, List.set_cons_succ]
      simp only [Nat.zero_add, Nat.reduceAdd]
      rw [h7]
      have hu3 : Up w2 w3 := (Chg.refl (fun _ => False) w2).drew.trans hw
      have HU3 := Lib.hid (HU2.out.trans hu3)
      have HROW := Lib.hid (own_chg HV2.out hu3 (fun _ _ h => h))
      obtain ⟨g, hg1, hg3⟩ : ∃ g, w.heap.size ≤ g ∧ ∀ j, (Value.slice A3 m c3).ownBlock = some j → j = g := by
        by_cases hA : ∃ g, (Value.slice A3 m c3).ownBlock = some g
        · obtain ⟨g, hg⟩ := hA
          refine ⟨g, ?_, fun j hj => by rw [hg] at hj; injection hj with e; exact e.symm⟩
          rcases HROW.out.2 with ⟨e, _⟩ | ⟨g', cap, cur, e, hb, _⟩
          · rw [e] at hg; simp [Value.ownBlock] at hg
          · rw [e] at hg; simp [Value.ownBlock] at hg; simp at hb; omega
        · exact ⟨w.heap.size, Nat.le_refl _, fun j hj => absurd ⟨j, hj⟩ hA⟩
      have HG := Lib.hid hg3
      obtain ⟨tt, ht⟩ : ∃ tt, (s0.toList == sy.toList) = tt := ⟨_, rfl⟩
      rw [ht]
      clear hw h7 hu3 HQ1 hg3 ht
      go_wp2_with fail
      go_loopw [104] (fun t wr => ∃ (j : Nat) (l : List Int), j ≤ m ∧ t = .int .i64 j ∧ l.length = m ∧ wr.ownsRow (w.alloc (.cells #[.int .i64 3, .int .i64 o.sec, .int .i64 o.num, .slice A1 o.dat.length cc1, .slice A2 o.lost.length cc2] 31)).heap.size 5 1 (.slice A3 m c3) m (u8s l) ∧ Chg (fun i => i = g) w3 wr) (fun t _ => m - (intOf t).toNat)
      case atStart => exact ⟨0, xs, by omega, rfl, HM.out, HROW.out, Chg.refl _ _⟩
      case round =>
        rename World => wr
        obtain ⟨j, l, hj, rfl, hll, hrow, hch⟩ := hrel
        by_cases hj2 : (j : Int) < m
        · obtain ⟨g', hg'⟩ : ∃ g', A3 = some ⟨g', 0, none⟩ := by
            rcases hrow.2 with ⟨_, hz⟩ | ⟨g', cap, cur, he, _⟩
            · omega
            · injection he with e1; exact ⟨g', e1⟩
          have hgg : g' = g := HG.out g' (by rw [hg']; rfl)
          rw [hgg] at hg'
          subst hg'
          have hce := World.ownsRow.cells hrow rfl j _ (u8s_at (show j < l.length by omega))
          rw [addr_add, Nat.zero_add] at hce
          have hfz : wr.frozen? ⟨g, j, none⟩ = false := World.ownsRow.frozenAt hrow j
          have HST : Hid (∀ z : Int, (wr.setCell ⟨g, j, none⟩ (.int .u8 z)).ownsRow (w.alloc (.cells #[.int .i64 3, .int .i64 o.sec, .int .i64 o.num, .slice A1 o.dat.length cc1, .slice A2 o.lost.length cc2] 31)).heap.size 5 1 (.slice (some ⟨g, 0, none⟩) m c3) m (u8s (l.set j z))) := Lib.hid (fun z => by
            obtain ⟨hs1, _⟩ := World.ownsRow.stored hrow j (.int .u8 z)
            rw [u8s_set] at hs1
            exact hs1)
          have HCH : Hid (∀ z : Int, Chg (fun i => i = g) w3 (wr.setCell ⟨g, j, none⟩ (.int .u8 z))) := Lib.hid (fun z => hch.setCell ⟨g, j, none⟩ (.inl rfl) _)
          have HLL := Lib.hid hll
          clear hrow hch hgg
          go_wp2_with fail
          exact ⟨⟨j + 1, l.set j _, by omega, by go_num, by rw [List.length_set]; exact HLL.out, HST.out _, HCH.out _⟩, by simp [intOf]; omega⟩
        · obtain ⟨jn, hjn⟩ : ∃ m, j = m := ⟨_, rfl⟩
          have hje : (j : Int) = m := by omega
          rw [hje]
          have HCH := Lib.hid hch
          clear hrow hch
          have hcl : Chg (fun i => w.heap.size ≤ i) w wr := ((((Chg.refl (fun _ => False) w).alloc (.cells #[.int .i64 3, .int .i64 o.sec, .int .i64 o.num, .slice A1 o.dat.length cc1, .slice A2 o.lost.length cc2] 31)).trans HU3.out).mono (fun _ _ h => h.elim)).then HCH.out (fun i hi => .inl (by omega))
          have hul : Up w wr := hcl.below_none (fun i hi h => by omega) |> up_below
          have HFIN : Hid (DskV wr p b sv x (k + 1) ∧ Chg (OwnB p b q sv (.slice (some ⟨g1, 0, none⟩) n c1) (.slice (some ⟨g2, 0, none⟩) n c2)) w wr) := Lib.hid ⟨(HH.out.d.up hul).le (Nat.le_succ k), hul.mono (fun _ _ h => h.elim)⟩
          clear hcl hul
          by_cases he : ee = 0
          · have he' : (ee == 0) = true := by rw [beq_iff_eq]; exact he
            go_wp2_with fail
            go_ret
            exact ⟨_, rfl, HFIN.out⟩
          · have he' : (ee == 0) = false := by rw [beq_eq_false_iff_ne]; exact he
            go_wp2_with fail
            go_ret
            exact ⟨_, rfl, HFIN.out⟩
theorem free_any (w : World) (p b q : Nat) (sv s1 s2 : Value) (x y : Dk) (k : Nat) (o : OpI) (d1 d2 : Value) (h : FreeAt w p b q sv s1 s2 x y k o d1 d2) : Calls Try.prog 41 #[.pointer (some ⟨p, 0, none⟩), .pointer (some ⟨q, 0, none⟩), .agg #[.int .i64 o.kind, .int .i64 o.sec, .int .i64 o.num, d1, d2]] w (FPost w p b q sv s1 s2 (stepI x o) (k + 1)) := by
  unfold stepI
  by_cases k1 : o.kind = 1
  · rw [if_pos k1]; exact free1 w p b q sv s1 s2 x y k o d1 d2 h k1
  rw [if_neg k1]
  by_cases k2 : o.kind = 2
  · rw [if_pos k2]; exact free2 w p b q sv s1 s2 x y k o d1 d2 h k2
  rw [if_neg k2]
  by_cases k4 : o.kind = 4
  · rw [if_pos k4]; exact free4 w p b q sv s1 s2 x y k o d1 d2 h k4
  rw [if_neg k4]
  by_cases k5 : o.kind = 5
  · rw [if_pos k5]; exact free5 w p b q sv s1 s2 x y k o d1 d2 h k5
  rw [if_neg k5]
  by_cases k6 : o.kind = 6
  · rw [if_pos k6]; exact free6 w p b q sv s1 s2 x y k o d1 d2 h k6
  rw [if_neg k6]
  by_cases k3 : o.kind = 3
  · exact free3 w p b q sv s1 s2 x y k o d1 d2 h k3
  exact free0 w p b q sv s1 s2 x y k o d1 d2 h ⟨k1, k2, k3, k4, k5, k6⟩
end Go.Proofs.Ytkndnlhlglgmfaa
