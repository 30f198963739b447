/-
  One call to both disks: step, of Write and Flush, walked.
-/
import Derived.Test.YtkndnlhlglgmfaaE24
namespace Go.Proofs.Ytkndnlhlglgmfaa
open Go.RowKit
/-- What one call does. -/
def stepI (x : Dk) (o : OpI) : Dk := if o.kind = 1 then (writeI x o.sec o.dat).1 else if o.kind = 2 then (flushI x).1 else if o.kind = 4 then { x with left := max o.num (-1) } else if o.kind = 5 then crashI x o.lost else if o.kind = 6 then (tamperI x o.sec o.dat).1 else x
def OwnB (p b q : Nat) (sv s1 s2 : Value) (j : Nat) : Prop := OwnD p b sv j ∨ OwnR q s1 s2 j
def SPost (w : World) (p b q : Nat) (sv s1 s2 : Value) (y : Dk) (k : Nat) (e : Ending) (w' : World) : Prop := e = .returned (.bool true) ∧ DskV w' p b sv y k ∧ RefX w' q s1 s2 y ∧ Chg (OwnB p b q sv s1 s2) w w'
/-- What a call finds. -/
structure StepAt (w : World) (p b q : Nat) (sv s1 s2 : Value) (x : Dk) (k : Nat) (o : OpI) (d1 d2 : Value) : Prop where
  d : DskV w p b sv x k
  r : RefX w q s1 s2 x
  wf : W16 x k
  k : k ≤ 80000
  ok : OpOk o
  dat : SlB w d1 o.dat
  lost : SlI w d2 o.lost
  n1 : o.dat.length ≤ 1000
  n2 : o.lost.length ≤ 1000
  sp1 : ∀ g, Value.blk d1 = some g → 0 < o.dat.length → ¬ OwnB p b q sv s1 s2 g
  sp2 : ∀ g, Value.blk d2 = some g → 0 < o.lost.length → ¬ OwnB p b q sv s1 s2 g
theorem slb_of {w : World} {base : Nat} {v : Value} {xs : List Int} (h : w.ownsRow base 5 1 v xs.length (u8s xs)) : SlB w v xs := DatB.slb (own_base h (Nat.zero_le _))
theorem small_of {os : List OpI} {n : Nat} (h : (smallB os && decide ((os.length : Int) ≤ (n : Int))) = true) : os.length ≤ n ∧ ∀ j, j < os.length → (os.getD j default).dat.length ≤ 200 ∧ (os.getD j default).lost.length ≤ 40 := by
  rw [Bool.and_eq_true, decide_eq_true_eq] at h
  refine ⟨by omega, fun j hj => ?_⟩
  have h1 := h.1
  unfold smallB at h1
  rw [List.all_eq_true] at h1
  have := h1 (os.getD j default) (by rw [List.getD_eq_getElem?_getD, List.getElem?_eq_getElem hj]; exact List.getElem_mem _)
  simpa using this
theorem u8s_set (l : List Int) (k : Nat) (z : Int) : (u8s l).set k (.int .u8 z) = u8s (l.set k z) := by simp [u8s, List.map_set]
set_option maxRecDepth 100000 in
set_option maxHeartbeats 4000000 in
theorem step1 (w : World) (p b q : Nat) (sv s1 s2 : Value) (x : Dk) (k : Nat) (o : OpI) (d1 d2 : Value) (h : StepAt w p b q sv s1 s2 x k o d1 d2) (hkind : o.kind = 1) : Calls Try.prog 41 #[.pointer (some ⟨p, 0, none⟩), .pointer (some ⟨q, 0, none⟩), .agg #[.int .i64 o.kind, .int .i64 o.sec, .int .i64 o.num, d1, d2]] w (SPost w p b q sv s1 s2 ((writeI x o.sec o.dat).1) (k + 1)) := by
  obtain ⟨A1, cc1, rfl, x1, x2⟩ := h.dat.shape
  obtain ⟨A2, cc2, rfl, y1, y2⟩ := h.lost.shape
  have hu0 : Up w (w.alloc (.cells #[.int .i64 o.kind, .int .i64 o.sec, .int .i64 o.num, .slice A1 o.dat.length cc1, .slice A2 o.lost.length cc2] 31)) := (Chg.refl _ w).alloc _
  have hbox := heap_alloc_last w (.cells #[.int .i64 o.kind, .int .i64 o.sec, .int .i64 o.num, .slice A1 o.dat.length cc1, .slice A2 o.lost.length cc2] 31)
  obtain ⟨v3, w3, hrun, hown, hgr, _, hblk⟩ := ap_run (P := Try.prog) ((w.alloc (.cells #[.int .i64 o.kind, .int .i64 o.sec, .int .i64 o.num, .slice A1 o.dat.length cc1, .slice A2 o.lost.length cc2] 31)).alloc (.cells #[] 5)) 28 28 (w.alloc (.cells #[.int .i64 o.kind, .int .i64 o.sec, .int .i64 o.num, .slice A1 o.dat.length cc1, .slice A2 o.lost.length cc2] 31)).heap.size 5 (.int .u8 0) 1 1 Try.underlying28 (by kernel_rfl) rfl (by decide) _ 0 [] (World.ownsRow_made (w.alloc (.cells #[.int .i64 o.kind, .int .i64 o.sec, .int .i64 o.num, .slice A1 o.dat.length cc1, .slice A2 o.lost.length cc2] 31)) #[] 0 (Nat.le_refl _) (by simp [maxLen]) (by simp)) (.slice A1 o.dat.length cc1) o.dat.length (u8s o.dat) (Src.chg h.dat (hu0.alloc (.cells #[] 5)) (fun _ _ _ h => h) (by decide)) (u8s_one o.dat) (by have := h.n1; omega) (by have := h.n1; omega) (by simp)
  have hu3 : Up w w3 := by
    have h2 : Up w ((w.alloc (.cells #[.int .i64 o.kind, .int .i64 o.sec, .int .i64 o.num, .slice A1 o.dat.length cc1, .slice A2 o.lost.length cc2] 31)).alloc (.cells #[] 5)) := hu0.alloc _
    refine h2.then (Chg.of_grownBy hgr) (fun i hi => .inr ?_)
    simp [Value.ownBlock] at hi
    omega
  have hbox3 : w3.heap[w.heap.size]? = some (.cells #[.int .i64 o.kind, .int .i64 o.sec, .int .i64 o.num, .slice A1 o.dat.length cc1, .slice A2 o.lost.length cc2] 31 (0, 0)) := by
    have h2 : ((w.alloc (.cells #[.int .i64 o.kind, .int .i64 o.sec, .int .i64 o.num, .slice A1 o.dat.length cc1, .slice A2 o.lost.length cc2] 31)).alloc (.cells #[] 5)).heap[w.heap.size]? = some (.cells #[.int .i64 o.kind, .int .i64 o.sec, .int .i64 o.num, .slice A1 o.dat.length cc1, .slice A2 o.lost.length cc2] 31 (0, 0)) := (Below.heap_alloc _ _ _ (by simp)).trans hbox
    exact (Chg.of_grownBy hgr).heap h2 (fun hi => by simp [Value.ownBlock] at hi)
  rw [show (w.alloc (.cells #[.int .i64 o.kind, .int .i64 o.sec, .int .i64 o.num, .slice A1 o.dat.length cc1, .slice A2 o.lost.length cc2] 31)).heap.size = w.heap.size + 1 by simp] at hrun hown hblk
  rw [Nat.zero_add] at hown
  simp only [List.nil_append] at hown
  obtain ⟨A3, c3, rfl⟩ := own_shape hown
  obtain ⟨g, hg1, hg2, hg3⟩ : ∃ g, w.heap.size ≤ g ∧ g < w3.heap.size ∧ ∀ j, (Value.slice A3 o.dat.length c3).ownBlock = some j → j = g := by
    by_cases hA : ∃ g, (Value.slice A3 o.dat.length c3).ownBlock = some g
    · obtain ⟨g, hg⟩ := hA
      obtain ⟨cu, fu, hh⟩ := own_type hown g hg
      refine ⟨g, ?_, (Array.getElem?_eq_some_iff.1 hh).1, fun j hj => by rw [hg] at hj; injection hj with e; exact e.symm⟩
      rcases hown.2 with ⟨e, _⟩ | ⟨g', cap, cur, e, hb, _⟩
      · rw [e] at hg; simp [Value.ownBlock] at hg
      · rw [e] at hg; simp [Value.ownBlock] at hg; omega
    · exact ⟨w.heap.size, Nat.le_refl _, (Array.getElem?_eq_some_iff.1 hbox3).1, fun j hj => absurd ⟨j, hj⟩ hA⟩
  have hr3 := h.r.up hu3
  have hd3 := (h.d.toG g hg1).chg hu3 (fun _ _ h => h) (fun _ _ _ h => h.elim)
  have hsl3 : SlB w3 (.slice A3 o.dat.length c3) o.dat := slb_of hown
  have HW69 := Lib.hid (xwrite w3 q s1 s2 x k hr3 h.wf (by have := h.k; omega) o.sec h.ok.2.1 _ o.dat hsl3)
  have hq1 := cell_of_row w3 w.heap.size 1 _ _ _ hbox3
  have hq3 := cell_of_row w3 w.heap.size 3 _ _ _ hbox3
  have HH := Lib.hid h
  have HRUN := Lib.hid hrun
  have HU3 := Lib.hid hu3
  have HBOX := Lib.hid hbox3
  have HR3 := Lib.hid hr3
  have HD3 := Lib.hid hd3
  have HOWN := Lib.hid hown
  have HG := Lib.hid hg3
  have hdn1 := h.n1
  clear hrun hu3 hbox3 hr3 hd3 hown hg3 hsl3 hgr hblk hbox hu0 h
  go_enter Try.func41, Try.ntmps41
  rw [hkind] at HRUN ⊢
  go_wp2_with (at_builtin; refine wpList_run_append rfl (.tmp 19) (.tmp 21) 28 rfl _ _ rfl rfl 28 rfl HRUN.out ?_)
  refine HW69.out.mono ?_
  rintro e w4 ⟨rfl, hr4, hc4⟩
  have hbox4 := hc4.heap HBOX.out (fun h => by have := HH.out.r.lt _ h; omega)
  have hq1' := cell_of_row w4 w.heap.size 1 _ _ _ hbox4
  have hq3' := cell_of_row w4 w.heap.size 3 _ _ _ hbox4
  have hown4 := own_chg HOWN.out hc4 (fun j hj h => by have := HH.out.r.lt _ h; have := HG.out j hj; omega)
  have hd4 := HD3.out.keepR HR3.out hc4
  have HW16 := Lib.hid (gwrite w4 p b sv x k g hd4 (by have := hc4.size; omega) HH.out.wf.wf (by have := HH.out.k; omega) o.sec (.slice A3 o.dat.length c3) o.dat (slb_of hown4) (by omega))
  have HC4 := Lib.hid hc4
  have HR4 := Lib.hid hr4
  have HD4 := Lib.hid hd4.toV
  have HOWN4 := Lib.hid hown4
  clear hc4 hr4 hd4 hown4 hbox4 HW69 hq1 hq3
  go_wp2_with fail
  refine HW16.out.mono ?_
  rintro e w5 ⟨rfl, hd5, hc5⟩
  have HROW := Lib.hid (own_chg HOWN4.out hc5 (fun j hj h => by have := HH.out.d.lt _ h; have := HG.out j hj; omega))
  have HD5 := Lib.hid hd5
  have HR5 := Lib.hid (HR4.out.keepD HD4.out hc5)
  have HC5 := Lib.hid (((HU3.out.mono (fun _ _ h => h.elim) : Chg (OwnB p b q sv s1 s2) w w3).then HC4.out (fun i hi => .inl (.inr hi))).then hc5 (fun i hi => .inl (.inl hi)))
  clear hd5
  clear hc5 HW16
  obtain ⟨r, hr⟩ : ∃ r, (writeI x o.sec o.dat).2 = r := ⟨_, rfl⟩
  rw [hr]
  clear hr
  go_wp2_with fail
  go_loopw [35] (fun t wr => ∃ (j : Nat) (l : List Int), j ≤ o.dat.length ∧ t = .int .i64 j ∧ l.length = o.dat.length ∧ wr.ownsRow (w.heap.size + 1) 5 1 (.slice A3 o.dat.length c3) o.dat.length (u8s l) ∧ Chg (fun i => i = g) w5 wr) (fun t _ => o.dat.length - (intOf t).toNat)
  case atStart => exact ⟨0, o.dat, by omega, rfl, rfl, HROW.out, Chg.refl _ _⟩
  case round =>
    rename World => wr
    obtain ⟨j, l, hj, rfl, hll, hrow, hch⟩ := hrel
    by_cases hj2 : (j : Int) < o.dat.length
    · obtain ⟨g', hg'⟩ : ∃ g', A3 = some ⟨g', 0, none⟩ := by
        rcases hrow.2 with ⟨_, hz⟩ | ⟨g', cap, cur, he, _⟩
        · omega
        · injection he with e1; exact ⟨g', e1⟩
      have hgg : g' = g := HG.out g' (by rw [hg']; rfl)
      rw [hgg] at hg'
      subst hg'
      have hce := World.ownsRow.cells hrow rfl j _ (u8s_at (show j < l.length by omega))
      rw [addr_add, Nat.zero_add] at hce
      have hfz : wr.frozen? ⟨g, j, none⟩ = false := World.ownsRow.frozenAt hrow j
      have HST : Hid (∀ z : Int, (wr.setCell ⟨g, j, none⟩ (.int .u8 z)).ownsRow (w.heap.size + 1) 5 1 (.slice (some ⟨g, 0, none⟩) o.dat.length c3) o.dat.length (u8s (l.set j z))) := Lib.hid (fun z => by
        obtain ⟨hs1, _⟩ := World.ownsRow.stored hrow j (.int .u8 z)
        rw [u8s_set] at hs1
        exact hs1)
      have HCH : Hid (∀ z : Int, Chg (fun i => i = g) w5 (wr.setCell ⟨g, j, none⟩ (.int .u8 z))) := Lib.hid (fun z => hch.setCell ⟨g, j, none⟩ (.inl rfl) _)
      have HLL := Lib.hid hll
      clear hrow hch hgg
      go_wp2_with fail
      exact ⟨⟨j + 1, l.set j _, by omega, by go_num, by rw [List.length_set]; exact HLL.out, HST.out _, HCH.out _⟩, by simp [intOf]; omega⟩
    · obtain ⟨jn, hjn⟩ : ∃ m, j = m := ⟨_, rfl⟩
      have hje : (j : Int) = o.dat.length := by omega
      rw [hje]
      have HCH := Lib.hid hch
      clear hrow hch
      go_wp2_with fail
      go_ret
      refine ⟨by simp, (HD5.out.turn HCH.out (fun h => by have := HH.out.d.lt _ h; omega)).toV, HR5.out.chg HCH.out (fun i hi e => by have := HH.out.r.lt _ hi; omega), HC5.out.then HCH.out (fun i hi => .inr (by omega))⟩
end Go.Proofs.Ytkndnlhlglgmfaa
