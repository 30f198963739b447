/-
  The law 'DiskCopies', walked.
-/
import Derived.Test.YtkndnlhlglgmfaaE31
namespace Go.Proofs.Ytkndnlhlglgmfaa
open Go.RowKit
theorem W16.fresh9 (n size : Nat) (hn : 0 < n) (hn2 : n ≤ 65536) (hs : 16 ≤ size) (hs2 : size ≤ 4096) : W16 (freshI n size) 0 := ⟨Wf.fresh n size hn2 hs2, by simp [freshI]; omega, hs⟩
/-- Calls lie below what both disks own. -/
theorem step_at9 {w0 w : World} {p b q : Nat} {sv s1 s2 : Value} {x : Dk} {k : Nat} {o : OpI} {d1 d2 : Value} (hd : DskV w p b sv x k) (hr : RefX w q s1 s2 x) (hw : W16 x k) (hk : k ≤ 80000) (ho : OpOk o) (h1 : SlB w0 d1 o.dat) (h2 : SlI w0 d2 o.lost) (hc : Chg (fun i => w0.heap.size ≤ i) w0 w) (n1 : o.dat.length ≤ 1000) (n2 : o.lost.length ≤ 1000) (hown : ∀ j, OwnB p b q sv s1 s2 j → w0.heap.size ≤ j) : StepAt w p b q sv s1 s2 x k o d1 d2 :=
  ⟨hd, hr, hw, hk, ho, src_below h1 (by decide) hc, src_below h2 (by decide) hc, n1, n2, fun g hg h0 hn => by have := src_lt h1 h0 (by decide) g hg; have := hown g hn; omega, fun g hg h0 hn => by have := src_lt h2 h0 (by decide) g hg; have := hown g hn; omega⟩
theorem freshI_num9 (n size : Nat) : (freshI n size).has.length = n := by simp [freshI]
theorem stepI_num9 (x : Dk) (o : OpI) : (stepI x o).has.length = x.has.length := by
  unfold stepI
  split
  · exact (write_form x _ _).1
  split
  · exact (flush_form x).1
  split
  · rfl
  split
  · exact (crash_form x _).1
  split
  · exact (tamper_form x _ _).1
  · rfl
theorem free_at {w0 w : World} {p b q : Nat} {sv s1 s2 : Value} {x y : Dk} {k : Nat} {o : OpI} {d1 d2 : Value} (hd : DskV w p b sv x k) (hr : RefX w q s1 s2 y) (hw : W16 x k) (hw2 : W16 y 0) (hup : y.down = false) (hnum : x.has.length = y.has.length) (hk : k ≤ 80000) (ho : OpOk o) (h1 : SlB w0 d1 o.dat) (h2 : SlI w0 d2 o.lost) (hc : Chg (fun i => w0.heap.size ≤ i) w0 w) (n1 : o.dat.length ≤ 1000) (n2 : o.lost.length ≤ 1000) (hown : ∀ j, OwnB p b q sv s1 s2 j → w0.heap.size ≤ j) : FreeAt w p b q sv s1 s2 x y k o d1 d2 :=
  ⟨hd, hr, hw, hw2, hup, hnum, hk, ho, src_below h1 (by decide) hc, src_below h2 (by decide) hc, n1, n2, fun g hg h0 hn => by have := src_lt h1 h0 (by decide) g hg; have := hown g hn; omega, fun g hg h0 hn => by have := src_lt h2 h0 (by decide) g hg; have := hown g hn; omega⟩
/-- What one disk and a new document's disk do leaves another disk, and another document's disk. -/
theorem DskV.keepB {w w' : World} {p b q p2 b2 : Nat} {sv s1 s2 sv2 : Value} {x y z : Dk} {k l : Nat} (h : DskV w p2 b2 sv2 z l) (hd : DskV w p b sv x k) (hr : RefX w q s1 s2 y) (hs : ∀ j, OwnD p2 b2 sv2 j → ¬ OwnD p b sv j) (hc : Chg (OwnB p b q sv s1 s2) w w') : DskV w' p2 b2 sv2 z l := by
  have ha := own_apart h hr
  have hn := hd.not5
  obtain ⟨m, ss, C, h1, h2⟩ := h
  have hS : ∀ j, OwnD p2 b2 sv2 j → ¬ OwnB p b q sv s1 s2 j := fun j hj hb => hb.elim (hs j hj) (ha j hj)
  exact ⟨m, ss, C, h1.chg hc (hS p2 (.inl rfl)) (hS b2 (.inr (.inl rfl))) (fun j hj => hS j (.inr (.inr hj))) (fun j cur fr hj => hj.elim (hn j cur fr) (hr.not5 j cur fr)), h2⟩
def NewN (base : Nat) (x : Dk) (v : Value) (W : World) : Prop := ∃ q s1 s2, v = .pointer (some ⟨q, 0, none⟩) ∧ RefX W q s1 s2 x ∧ ∀ j, OwnR q s1 s2 j → base ≤ j
theorem NewN.up {base : Nat} {x : Dk} {v : Value} {W W' : World} (h : NewN base x v W) (hu : Up W W') : NewN base x v W' := by
  obtain ⟨q, s1, s2, e, h1, h2⟩ := h
  exact ⟨q, s1, s2, e, h1.up hu, h2⟩
set_option maxRecDepth 100000 in
set_option maxHeartbeats 4000000 in
theorem diskCopies_any (w : World) (v1 : Value) (os1 : List OpI) (ds1 : List (Value × Value)) (h1 : OpsAt w v1 os1 ds1) (hok1 : ∀ j, j < os1.length → OpOk (os1.getD j default)) (v2 : Value) (os2 : List OpI) (ds2 : List (Value × Value)) (h2 : OpsAt w v2 os2 ds2) (hok2 : ∀ j, j < os2.length → OpOk (os2.getD j default)) : Calls Try.prog 9 #[v1, v2] w (TruePost w) := by
  obtain ⟨A, c, rfl, hc1, hc2⟩ := h1.shape
  obtain ⟨A', c', rfl, hc1', hc2'⟩ := h2.shape
  have HO1 := Lib.hid h1
  have HOK1 := Lib.hid hok1
  have HO2 := Lib.hid h2
  have HOK2 := Lib.hid hok2
  clear h1 hok1 h2 hok2
  go_enter Try.func9, Try.ntmps9
  go_wp2_with fail
  refine (vnew w 8 16 (by unfold FormOk; omega)).mono ?_
  rintro e W1 hp
  obtain ⟨p, b, sv, rfl, hd1, ho1, hb1⟩ := hp
  have HD1 := Lib.hid hd1
  have HOW1 : Hid (∀ j, OwnD p b sv j → w.heap.size ≤ j) := Lib.hid ho1
  have HC1 : Hid (Chg (fun i => w.heap.size ≤ i) w W1) := Lib.hid ((up_below hb1).mono (fun _ _ h => h.elim))
  clear hd1 ho1 hb1
  have HS1 := Lib.hid (small_any W1 _ os1 ds1 (HO1.out.below HC1.out) 30)
  go_wp2_with fail
  refine HS1.out.mono ?_
  rintro e W3 ⟨rfl, hb3⟩
  have HC3 := Lib.hid (HC1.out.then (up_below hb3) (fun _ h => h.elim))
  have HD3 := Lib.hid (HD1.out.up (up_below hb3))
  clear hb3 HS1 HC1 HD1
  cases hsm1 : (smallB os1 && decide ((os1.length : Int) ≤ 30)) with
  | false =>
    have HA := Lib.hid (awake_any W3)
    go_wp2_with (go_at_call 13; refine HA.out.mono ?_; rintro e w' ⟨rfl, hb⟩)
    go_ret
    exact ⟨rfl, (HC3.out.then (up_below hb) (fun _ h => h.elim)).below (Nat.le_refl _) (fun _ h => h)⟩
  | true =>
    obtain ⟨hl1, hsm1'⟩ := small_of (n := 30) hsm1
    have HSM1 := Lib.hid hsm1'
    clear hsm1 hsm1'
    have HS2 := Lib.hid (small_any W3 _ os2 ds2 (HO2.out.below HC3.out) 30)
    go_wp2_with fail
    refine HS2.out.mono ?_
    rintro e W4 ⟨rfl, hb4⟩
    have HC4 := Lib.hid (HC3.out.then (up_below hb4) (fun _ h => h.elim))
    have HD4 := Lib.hid (HD3.out.up (up_below hb4))
    clear hb4 HS2 HC3 HD3
    cases hsm2 : (smallB os2 && decide ((os2.length : Int) ≤ 30)) with
    | false =>
      have HA := Lib.hid (awake_any W4)
      go_wp2_with (go_at_call 13; refine HA.out.mono ?_; rintro e w' ⟨rfl, hb⟩)
      go_ret
      exact ⟨rfl, (HC4.out.then (up_below hb) (fun _ h => h.elim)).below (Nat.le_refl _) (fun _ h => h)⟩
    | true =>
      obtain ⟨hl2, hsm2'⟩ := small_of (n := 30) hsm2
      have HSM2 := Lib.hid hsm2'
      clear hsm2 hsm2'
      go_wp2_with fail
      refine (xnew W4 8 16 (by omega) (by omega)).mono ?_
      rintro e W5 hp
      obtain ⟨q, s1, s2, rfl, hr5, ho5, hb5⟩ := hp
      have HR5 := Lib.hid hr5
      have HD5 := Lib.hid (HD4.out.up (up_below hb5))
      have HC5 := Lib.hid (HC4.out.then (up_below hb5) (fun _ h => h.elim))
      have HOB : Hid (∀ j, OwnB p b q sv s1 s2 j → w.heap.size ≤ j) := Lib.hid (fun j hj => hj.elim (fun h => HOW1.out j h) (fun h => Nat.le_trans HC4.out.size (ho5 j h)))
      clear hr5 ho5 hb5 HD4 HC4
      go_wp2_with fail
      go_loopw [35] (fun i wr => ∃ (k : Nat) (x : Dk), k ≤ os1.length ∧ i = .int .i64 k ∧ DskV wr p b sv x k ∧ RefX wr q s1 s2 x ∧ W16 x k ∧ x.has.length = 8 ∧ Chg (fun i => w.heap.size ≤ i) w wr) (fun i _ => os1.length - (intOf i).toNat)
      case atStart => exact ⟨0, freshI 8 16, by omega, rfl, HD5.out, HR5.out, W16.fresh9 8 16 (by omega) (by omega) (by omega) (by omega), rfl, HC5.out⟩
      case round =>
        rename World => wr
        obtain ⟨k, x, hk, rfl, hd, hr, hwf, hnx, hch⟩ := hrel
        by_cases hk2 : (k : Int) < os1.length
        · have ho := HO1.out.below (hch)
          have ho0 := HO1.out
          obtain ⟨bb, off, cc, he, _, _, hcells⟩ := ho.cells (by omega)
          injection he with e1 e2 e3
          subst e1 e3
          obtain ⟨r0, r1, r2, r3, r4⟩ := hcells k (by omega)
          have hdd := ho0.dat k (by omega)
          have hll := ho0.lost k (by omega)
          have hok := HOK1.out k (by omega)
          have hsm := HSM1.out k (by omega)
          obtain ⟨⟨d1, d2⟩, hde⟩ : ∃ d, ds1.getD k uu = d := ⟨_, rfl⟩
          obtain ⟨o, hoe⟩ : ∃ o, os1.getD k default = o := ⟨_, rfl⟩
          rw [hde] at r3 r4 hdd hll
          rw [hoe] at r0 r1 r2 hdd hll hok hsm
          dsimp only at r3 r4 hdd hll
          obtain ⟨A1, c1, rfl, x1, x2⟩ := hdd.shape
          obtain ⟨A2, c2, rfl, y1, y2⟩ := hll.shape
          obtain ⟨hsm1, hsm2⟩ := hsm
          have hu : Up wr (wr.alloc (.cells #[.int .i64 o.kind, .int .i64 o.sec, .int .i64 o.num, .slice A1 o.dat.length c1, .slice A2 o.lost.length c2] 31)) := (Chg.refl _ wr).alloc _
          have HST := Lib.hid (step_any _ p b q sv s1 s2 x k o _ _ (step_at9 (hd.up hu) (hr.up hu) hwf (by omega) hok hdd hll (hch.then hu (fun _ h => h.elim)) (by omega) (by omega) HOB.out))
          have HW2 := Lib.hid (hwf.step o hok)
          have HNX : Hid ((stepI x o).has.length = 8) := Lib.hid ((stepI_num9 x o).trans hnx)
          have HCH : Hid (Chg (fun i => w.heap.size ≤ i) w (wr.alloc (.cells #[.int .i64 o.kind, .int .i64 o.sec, .int .i64 o.num, .slice A1 o.dat.length c1, .slice A2 o.lost.length c2] 31))) := Lib.hid (hch.then hu (fun _ h => h.elim))
          obtain ⟨y, hy⟩ : ∃ y, stepI x o = y := ⟨_, rfl⟩
          rw [hy] at HST HW2 HNX
          clear hy hd hr hwf hnx hch ho ho0 hcells hdd hll hok hde hoe hu
          go_wp2_with fail
          refine HST.out.mono ?_
          rintro e W6 ⟨rfl, hd6, hr6, hc6⟩
          have HX6 : Hid (DskV W6 p b sv y (k + 1) ∧ RefX W6 q s1 s2 y ∧ W16 y (k + 1) ∧ y.has.length = 8 ∧ Chg (fun i => w.heap.size ≤ i) w W6) := Lib.hid ⟨hd6, hr6, HW2.out, HNX.out, HCH.out.then hc6 (fun i hi => .inl (HOB.out i hi))⟩
          clear hd6 hr6 hc6 HST HCH
          go_wp2_with fail
          exact ⟨⟨k + 1, y, by omega, by go_num, HX6.out⟩, by simp [intOf]; omega⟩
        · obtain rfl : k = os1.length := by omega
          have HD6 := Lib.hid hd
          have HR6 := Lib.hid hr
          have HW6 := Lib.hid hwf
          have HN6 := Lib.hid hnx
          have HC6 := Lib.hid hch
          have HCP := Lib.hid (vcopy wr p b sv x _ hd hwf.wf)
          clear hd hr hwf hnx hch HD5 HR5 HC5
          go_wp2_with fail
          refine HCP.out.mono ?_
          rintro e W7 hp
          obtain ⟨cp, cb, csv, rfl, hdc, hoc, hb7⟩ := hp
          have HDC := Lib.hid hdc
          have HD7 := Lib.hid (HD6.out.up (up_below hb7))
          have HR7 := Lib.hid (HR6.out.up (up_below hb7))
          have HC7 := Lib.hid (HC6.out.then (up_below hb7) (fun _ h => h.elim))
          have HOC : Hid (∀ j, OwnD cp cb csv j → w.heap.size ≤ j) := Lib.hid (fun j hj => Nat.le_trans HC6.out.size (hoc j hj))
          have HSEP : Hid (∀ j, OwnD cp cb csv j → ¬ OwnD p b sv j) := Lib.hid (fun j hj hj2 => by have := hoc j hj; have := HD6.out.lt j hj2; omega)
          clear hdc hoc hb7 HCP HD6 HR6 HC6
          go_wp2_with fail
          go_loopw [51] (fun i wr => ∃ (k : Nat) (z : Dk), k ≤ os2.length ∧ i = .int .i64 k ∧ DskV wr p b sv z (os1.length + k) ∧ DskV wr cp cb csv x os1.length ∧ RefX wr q s1 s2 x ∧ Chg (fun i => w.heap.size ≤ i) w wr ∧ W16 z (os1.length + k) ∧ z.has.length = 8) (fun i _ => os2.length - (intOf i).toNat)
          case atStart => exact ⟨0, x, by omega, rfl, HD7.out, HDC.out, HR7.out, HC7.out, HW6.out, HN6.out⟩
          case round =>
            rename World => wr
            obtain ⟨k, z, hk, rfl, hd, hdc, hr, hch, hwz, hnz⟩ := hrel
            by_cases hk2 : (k : Int) < os2.length
            · have ho := HO2.out.below (hch)
              have ho0 := HO2.out
              obtain ⟨bb, off, cc, he, _, _, hcells⟩ := ho.cells (by omega)
              injection he with e1 e2 e3
              subst e1 e3
              obtain ⟨r0, r1, r2, r3, r4⟩ := hcells k (by omega)
              have hdd := ho0.dat k (by omega)
              have hll := ho0.lost k (by omega)
              have hok := HOK2.out k (by omega)
              have hsm := HSM2.out k (by omega)
              obtain ⟨⟨d1, d2⟩, hde⟩ : ∃ d, ds2.getD k uu = d := ⟨_, rfl⟩
              obtain ⟨o, hoe⟩ : ∃ o, os2.getD k default = o := ⟨_, rfl⟩
              rw [hde] at r3 r4 hdd hll
              rw [hoe] at r0 r1 r2 hdd hll hok hsm
              dsimp only at r3 r4 hdd hll
              obtain ⟨A1, c1, rfl, x1, x2⟩ := hdd.shape
              obtain ⟨A2, c2, rfl, y1, y2⟩ := hll.shape
              obtain ⟨hsm1, hsm2⟩ := hsm
              have hu : Up wr (wr.alloc (.cells #[.int .i64 o.kind, .int .i64 o.sec, .int .i64 o.num, .slice A1 o.dat.length c1, .slice A2 o.lost.length c2] 31)) := (Chg.refl _ wr).alloc _
              have HBX : Hid ((wr.alloc (.cells #[.int .i64 o.kind, .int .i64 o.sec, .int .i64 o.num, .slice A1 o.dat.length c1, .slice A2 o.lost.length c2] 31)).drew.heap[wr.heap.size]? = some (.cells #[.int .i64 o.kind, .int .i64 o.sec, .int .i64 o.num, .slice A1 o.dat.length c1, .slice A2 o.lost.length c2] 31 (0, 0))) := Lib.hid (heap_alloc_last wr (.cells #[.int .i64 o.kind, .int .i64 o.sec, .int .i64 o.num, .slice A1 o.dat.length c1, .slice A2 o.lost.length c2] 31))
              have HWS : Hid (w.heap.size ≤ wr.heap.size) := Lib.hid hch.size
              have HSZ : Hid (wr.heap.size ≤ (wr.alloc (.cells #[.int .i64 o.kind, .int .i64 o.sec, .int .i64 o.num, .slice A1 o.dat.length c1, .slice A2 o.lost.length c2] 31)).drew.heap.size) := Lib.hid hu.size
              have HALL : Hid (DskV (wr.alloc (.cells #[.int .i64 o.kind, .int .i64 o.sec, .int .i64 o.num, .slice A1 o.dat.length c1, .slice A2 o.lost.length c2] 31)).drew p b sv z (os1.length + k) ∧ DskV (wr.alloc (.cells #[.int .i64 o.kind, .int .i64 o.sec, .int .i64 o.num, .slice A1 o.dat.length c1, .slice A2 o.lost.length c2] 31)).drew cp cb csv x os1.length ∧ RefX (wr.alloc (.cells #[.int .i64 o.kind, .int .i64 o.sec, .int .i64 o.num, .slice A1 o.dat.length c1, .slice A2 o.lost.length c2] 31)).drew q s1 s2 x ∧ Chg (fun i => w.heap.size ≤ i) w (wr.alloc (.cells #[.int .i64 o.kind, .int .i64 o.sec, .int .i64 o.num, .slice A1 o.dat.length c1, .slice A2 o.lost.length c2] 31)).drew ∧ W16 z (os1.length + k) ∧ z.has.length = 8) := Lib.hid ⟨hd.up hu.drew, hdc.up hu.drew, hr.up hu.drew, hch.then hu.drew (fun _ h => h.elim), hwz, hnz⟩
              have HLTQ : Hid (∀ j, OwnR q s1 s2 j → j < wr.heap.size) := Lib.hid (fun j hj => hr.lt j hj)
              have HOKO := Lib.hid hok
              have HDD := Lib.hid hdd
              have HLL := Lib.hid hll
              clear hd hdc hr hch hwz hnz ho ho0 hcells hdd hll hok hde hoe hu
              go_wp2_with fail
              refine MT.region_mono Up [fun v _ => v = .pointer (some ⟨p, 0, none⟩),
                  NewN wr.heap.size (freshI 8 16),
                  fun v _ => v = .agg #[.int .i64 o.kind, .int .i64 o.sec, .int .i64 o.num, .slice A1 o.dat.length c1, .slice A2 o.lost.length c2]] (by kernel_rfl) (by kernel_rfl) (Chg.refl _) (fun _ _ _ => Chg.trans) (by simp) ?_ ?_ ?_
              · simp only [List.forall_mem_cons]
                exact ⟨fun _ _ _ _ _ h => h, fun _ _ _ _ hu h => NewN.up h hu, fun _ _ _ _ _ h => h, by simp⟩
              · refine ⟨?_, ?_, ?_, trivial⟩
                · intro ρ w1 hw h0 hc hg hf hd
                  have s5 : ρ (.tmp 5) = .pointer (some ⟨p, 0, none⟩) := h0 5 (by kernel_rfl)
                  refine ⟨fun _ => ?_, fun h => by cases h⟩
                  clear h0 hg hd
                  exact gives_move rfl ⟨Chg.refl _ _, s5⟩
                · intro ρ w1 hw h0 hc hg hf hd
                  refine ⟨fun _ => ?_, fun h => by cases h⟩
                  clear h0 hg hd
                  refine gives_call rfl hf Try.func40 rfl (by kernel_rfl) (args := #[.int .i64 8, .int .i64 16]) (by simp [hc]) ((xnew w1 8 16 (by omega) (by omega)).mono ?_)
                  rintro e w2 hp
                  obtain ⟨q', t1, t2, rfl, hr', ho', hb'⟩ := hp
                  exact ⟨_, rfl, up_below hb', q', t1, t2, rfl, hr', fun j hj => Nat.le_trans (Nat.le_trans HSZ.out hw.size) (ho' j hj)⟩
                · intro ρ w1 hw h0 hc hg hf hd
                  have s11 : ρ (.tmp 11) = .pointer (some ⟨wr.heap.size, 0, none⟩) := h0 11 (by kernel_rfl)
                  refine ⟨fun _ => ?_, fun h => by cases h⟩
                  clear h0 hg hd
                  clear hc hf
                  exact gv_load_row rfl s11 (hw.heap HBX.out (fun h => h)) Try.underlying31 rfl (by kernel_rfl) ⟨Chg.refl _ _, rfl⟩
              · intro vs w2 hw hr
                have h0 := hr 0 _ rfl
                have h1 := hr 1 _ rfl
                have h2 := hr 2 _ rfl
                clear hr
                dsimp only [putsL, restL]
                simp only [Act.put, List.setIfInBounds_toArray, List.set_cons_zero, List.set_cons_succ]
                obtain ⟨q', t1, t2, e1, hr', ho'⟩ := h1
                simp only [Nat.zero_add, Nat.reduceAdd]
                rw [h0, e1, h2]
                obtain ⟨a1, a2, a3, a4, a5, a6⟩ := HALL.out
                have hd2 := a1.up hw
                have hc2 := a2.up hw
                have hr2 := a3.up hw
                have hch2 := a4.then hw (fun _ h => h.elim)
                have hwsz := a4.size
                have HFR := Lib.hid (free_any w2 p b q' sv t1 t2 z (freshI 8 16) (os1.length + k) o _ _ (free_at hd2 hr' a5 (W16.fresh9 8 16 (by omega) (by omega) (by omega) (by omega)) rfl a6 (by omega) HOKO.out HDD.out HLL.out hch2 (by omega) (by omega) (fun j hj => hj.elim (fun h => HOW1.out j h) (fun h => Nat.le_trans HWS.out (ho' j h)))))
                have HX2 : Hid (∀ w3, Chg (OwnB p b q' sv t1 t2) w2 w3 → DskV w3 cp cb csv x os1.length ∧ RefX w3 q s1 s2 x ∧ Chg (fun i => w.heap.size ≤ i) w w3) := Lib.hid (fun w3 hc => ⟨hc2.keepB hd2 hr' HSEP.out hc, hr2.chg hc (fun j hj hb => hb.elim (fun h => own_apart hd2 hr2 j h hj) (fun h => by have := HLTQ.out j hj; have := ho' j h; omega)), hch2.then hc (fun j hj => .inl (hj.elim (fun h => HOW1.out j h) (fun h => Nat.le_trans HWS.out (ho' j h))))⟩)
                have HW3 := Lib.hid (a5.step o HOKO.out)
                have HN3 : Hid ((stepI z o).has.length = 8) := Lib.hid ((stepI_num9 z o).trans a6)
                obtain ⟨z2, hz2⟩ : ∃ z2, stepI z o = z2 := ⟨_, rfl⟩
                rw [hz2] at HFR HW3 HN3
                clear hw h0 e1 h2 hr' ho' a1 a2 a3 a4 a5 a6 hd2 hc2 hr2 hch2 hz2
                go_wp2_with fail
                refine HFR.out.mono ?_
                rintro e w3 ⟨tb, rfl, hd3, hc3⟩
                have HY := Lib.hid (HX2.out w3 hc3)
                have HD3 := Lib.hid hd3
                clear hd3 hc3 HFR HX2
                go_wp2_with fail
                exact ⟨⟨k + 1, z2, by omega, by go_num, HD3.out, HY.out.1, HY.out.2.1, HY.out.2.2, HW3.out, HN3.out⟩, by simp [intOf]; omega⟩
            · obtain rfl : k = os2.length := by omega
              have HD8 := Lib.hid hdc
              have HR8 := Lib.hid hr
              have HC8 := Lib.hid hch
              have HSA := Lib.hid (same_any wr cp cb q csv s1 s2 x _ hdc hr HW6.out (by omega))
              clear hd hdc hr hch hwz hnz
              go_wp2_with fail
              refine HSA.out.mono ?_
              rintro e W8 ⟨rfl, hb8⟩
              have HD9 := Lib.hid (HD8.out.up (up_below hb8))
              have HR9 := Lib.hid (HR8.out.up (up_below hb8))
              have HC9 := Lib.hid (HC8.out.then (up_below hb8) (fun _ h => h.elim))
              have HOB2 : Hid (∀ j, OwnB cp cb q csv s1 s2 j → w.heap.size ≤ j) := Lib.hid (fun j hj => hj.elim (fun h => HOC.out j h) (fun h => HOB.out j (.inr h)))
              clear hb8 HSA HD8 HR8 HC8
              go_wp2_with fail
              go_loopw [66] (fun i wr => ∃ (k : Nat) (y : Dk), k ≤ os2.length ∧ i = .int .i64 k ∧ DskV wr cp cb csv y (os1.length + k) ∧ RefX wr q s1 s2 y ∧ W16 y (os1.length + k) ∧ Chg (fun i => w.heap.size ≤ i) w wr) (fun i _ => os2.length - (intOf i).toNat)
              case atStart => exact ⟨0, x, by omega, rfl, HD9.out, HR9.out, HW6.out, HC9.out⟩
              case round =>
                rename World => wr
                obtain ⟨k, xd, hk, rfl, hd, hr, hwf, hch⟩ := hrel
                by_cases hk2 : (k : Int) < os2.length
                · have ho := HO2.out.below (hch)
                  have ho0 := HO2.out
                  obtain ⟨bb, off, cc, he, _, _, hcells⟩ := ho.cells (by omega)
                  injection he with e1 e2 e3
                  subst e1 e3
                  obtain ⟨r0, r1, r2, r3, r4⟩ := hcells k (by omega)
                  have hdd := ho0.dat k (by omega)
                  have hll := ho0.lost k (by omega)
                  have hok := HOK2.out k (by omega)
                  have hsm := HSM2.out k (by omega)
                  obtain ⟨⟨d1, d2⟩, hde⟩ : ∃ d, ds2.getD k uu = d := ⟨_, rfl⟩
                  obtain ⟨o, hoe⟩ : ∃ o, os2.getD k default = o := ⟨_, rfl⟩
                  rw [hde] at r3 r4 hdd hll
                  rw [hoe] at r0 r1 r2 hdd hll hok hsm
                  dsimp only at r3 r4 hdd hll
                  obtain ⟨A1, c1, rfl, x1, x2⟩ := hdd.shape
                  obtain ⟨A2, c2, rfl, y1, y2⟩ := hll.shape
                  obtain ⟨hsm1, hsm2⟩ := hsm
                  have hu : Up wr (wr.alloc (.cells #[.int .i64 o.kind, .int .i64 o.sec, .int .i64 o.num, .slice A1 o.dat.length c1, .slice A2 o.lost.length c2] 31)) := (Chg.refl _ wr).alloc _
                  have HST := Lib.hid (step_any _ cp cb q csv s1 s2 xd (os1.length + k) o _ _ (step_at9 (hd.up hu) (hr.up hu) hwf (by omega) hok hdd hll (hch.then hu (fun _ h => h.elim)) (by omega) (by omega) HOB2.out))
                  have HW2 := Lib.hid (hwf.step o hok)
                  have HCH : Hid (Chg (fun i => w.heap.size ≤ i) w (wr.alloc (.cells #[.int .i64 o.kind, .int .i64 o.sec, .int .i64 o.num, .slice A1 o.dat.length c1, .slice A2 o.lost.length c2] 31))) := Lib.hid (hch.then hu (fun _ h => h.elim))
                  obtain ⟨y, hy⟩ : ∃ y, stepI xd o = y := ⟨_, rfl⟩
                  rw [hy] at HST HW2
                  clear hy hd hr hwf hch ho ho0 hcells hdd hll hok hde hoe hu
                  go_wp2_with fail
                  refine HST.out.mono ?_
                  rintro e Wa ⟨rfl, hd6, hr6, hc6⟩
                  have HD6 := Lib.hid hd6
                  have HR6 := Lib.hid hr6
                  have HC6 := Lib.hid (HCH.out.then hc6 (fun i hi => .inl (HOB2.out i hi)))
                  have HSA := Lib.hid (same_any Wa cp cb q csv s1 s2 y _ hd6 hr6 HW2.out (by omega))
                  clear hd6 hr6 hc6 HST HCH
                  go_wp2_with fail
                  refine HSA.out.mono ?_
                  rintro e Wb ⟨rfl, hbb⟩
                  have HX6 : Hid (DskV Wb cp cb csv y (os1.length + k + 1) ∧ RefX Wb q s1 s2 y ∧ W16 y (os1.length + k + 1) ∧ Chg (fun i => w.heap.size ≤ i) w Wb) := Lib.hid ⟨HD6.out.up (up_below hbb), HR6.out.up (up_below hbb), HW2.out, HC6.out.then (up_below hbb) (fun _ h => h.elim)⟩
                  clear hbb HSA HD6 HR6 HC6
                  go_wp2_with fail
                  exact ⟨⟨k + 1, y, by omega, by go_num, HX6.out⟩, by simp [intOf]; omega⟩
                · have HCE := Lib.hid hch
                  have hke : (k : Int) = os2.length := by omega
                  rw [hke]
                  clear hd hr hwf hch
                  have HA := Lib.hid (awake_any wr)
                  go_wp2_with (go_at_call 13; refine HA.out.mono ?_; rintro e w' ⟨rfl, hb⟩)
                  go_ret
                  exact ⟨rfl, (HCE.out.then (up_below hb) (fun _ h => h.elim)).below (Nat.le_refl _) (fun _ h => h)⟩
end Go.Proofs.Ytkndnlhlglgmfaa
