/-
  The law 'DiskDiffers', walked.
-/
import Derived.Test.YtkndnlhlglgmfaaE16
namespace Go.Proofs.Ytkndnlhlglgmfaa
open Go.RowKit
theorem small_all {os : List OpI} {n : Nat} (h : (smallB os && decide ((os.length : Int) ≤ (n : Int))) = true) : os.length ≤ n ∧ ∀ j, j < os.length → (os.getD j default).dat.length ≤ 200 ∧ (os.getD j default).lost.length ≤ 40 := by
  rw [Bool.and_eq_true, decide_eq_true_eq] at h
  refine ⟨by omega, fun j hj => ?_⟩
  have h1 := h.1
  unfold smallB at h1
  rw [List.all_eq_true] at h1
  have := h1 (os.getD j default) (by rw [List.getD_eq_getElem?_getD, List.getElem?_eq_getElem hj]; exact List.getElem_mem _)
  simpa using this
theorem slb_own {w : World} {base : Nat} {v : Value} {xs : List Int} (h : w.ownsRow base 5 1 v xs.length (u8s xs)) : SlB w v xs := DatB.slb (own_base h (Nat.zero_le _))
set_option maxRecDepth 100000 in
set_option maxHeartbeats 4000000 in
theorem diskDiffers_any (w : World) (v1 : Value) (os1 : List OpI) (ds1 : List (Value × Value)) (h1 : OpsAt w v1 os1 ds1) (hok1 : ∀ j, j < os1.length → OpOk (os1.getD j default)) (v2 : Value) (os2 : List OpI) (ds2 : List (Value × Value)) (h2 : OpsAt w v2 os2 ds2) (hok2 : ∀ j, j < os2.length → OpOk (os2.getD j default)) (n size : Int) (hn : I64 n) (hs : I64 size) : Calls Try.prog 4 #[v1, v2, .agg #[.int .i64 n, .int .i64 size]] w (TruePost w) := by
  obtain ⟨A, c, rfl, hc1, hc2⟩ := h1.shape
  obtain ⟨A', c', rfl, hc1', hc2'⟩ := h2.shape
  have HO1 := Lib.hid h1
  have HOK1 := Lib.hid hok1
  have HO2 := Lib.hid h2
  have HOK2 := Lib.hid hok2
  have HN := Lib.hid hn
  have HS := Lib.hid hs
  have HU0 : Hid (Chg (fun i => w.heap.size ≤ i) w (w.alloc (.cells #[.int .i64 n, .int .i64 size] 39)).drew) := Lib.hid ((Chg.refl _ w).alloc _).drew
  have HCN : Hid ((w.alloc (.cells #[.int .i64 n, .int .i64 size] 39)).drew.cell? ⟨w.heap.size, 0, none⟩ = some (.int .i64 n)) := Lib.hid (cell_of_row (w.alloc (.cells #[.int .i64 n, .int .i64 size] 39)) _ 0 _ _ _ (heap_alloc_last w _))
  have HCS : Hid ((w.alloc (.cells #[.int .i64 n, .int .i64 size] 39)).drew.cell? ⟨w.heap.size, 1, none⟩ = some (.int .i64 size)) := Lib.hid (cell_of_row (w.alloc (.cells #[.int .i64 n, .int .i64 size] 39)) _ 1 _ _ _ (heap_alloc_last w _))
  clear h1 hok1 h2 hok2 hn hs
  go_enter Try.func4, Try.ntmps4
  go_wp2_with fail
  refine MT.region_mono Up [fun v _ => v = .pointer (some ⟨w.heap.size, 0, none⟩),
      fun v _ => v = .int .i64 n,
      fun v _ => v = .pointer (some ⟨w.heap.size, 1, none⟩),
      fun v _ => v = .int .i64 size,
      fun v _ => v = .int .i64 n,
      fun v _ => v = .int .i64 size] (by kernel_rfl) (by kernel_rfl) (Chg.refl _) (fun _ _ _ => Chg.trans) (by simp) ?_ ?_ ?_
  · simp only [List.forall_mem_cons]
    exact ⟨fun _ _ _ _ _ h => h, fun _ _ _ _ _ h => h, fun _ _ _ _ _ h => h, fun _ _ _ _ _ h => h, fun _ _ _ _ _ h => h, fun _ _ _ _ _ h => h, by simp⟩
  · refine ⟨?_, ?_, ?_, ?_, ?_, ?_, trivial⟩
    · intro ρ w1 hw h0 hc hg hf hd
      have s5 : ρ (.tmp 5) = .pointer (some ⟨w.heap.size, 0, none⟩) := h0 5 (by kernel_rfl)
      refine ⟨fun _ => ?_, fun h => by cases h⟩
      clear h0 hg hd
      clear hf
      refine Gives.value (w' := w1) ?_ ⟨Chg.refl _ _, rfl⟩
      go_simp
    · intro ρ w1 hw h0 hc hg hf hd
      have d0 := hd ⟨0, .data⟩ (by simp) rfl _ _ _ rfl rfl rfl
      refine ⟨fun _ => ?_, fun h => by cases h⟩
      clear h0 hg hd
      clear hc hf
      have c1 := hw.cell HCN.out (fun h => h)
      refine Gives.value (w' := w1) ?_ ⟨Chg.refl _ _, rfl⟩
      go_simp
    · intro ρ w1 hw h0 hc hg hf hd
      have s5 : ρ (.tmp 5) = .pointer (some ⟨w.heap.size, 0, none⟩) := h0 5 (by kernel_rfl)
      refine ⟨fun _ => ?_, fun h => by cases h⟩
      clear h0 hg hd
      clear hf
      refine Gives.value (w' := w1) ?_ ⟨Chg.refl _ _, rfl⟩
      go_simp
    · intro ρ w1 hw h0 hc hg hf hd
      have d2 := hd ⟨2, .data⟩ (by simp) rfl _ _ _ rfl rfl rfl
      refine ⟨fun _ => ?_, fun h => by cases h⟩
      clear h0 hg hd
      clear hc hf
      have c1 := hw.cell HCS.out (fun h => h)
      refine Gives.value (w' := w1) ?_ ⟨Chg.refl _ _, rfl⟩
      go_simp
    · intro ρ w1 hw h0 hc hg hf hd
      have d1 := hd ⟨1, .data⟩ (by simp) rfl _ _ _ rfl rfl rfl
      refine ⟨fun _ => ?_, fun h => by cases h⟩
      clear h0 hg hd
      clear hc hf
      refine Gives.value (w' := w1) ?_ ⟨Chg.refl _ _, rfl⟩
      go_simp
    · intro ρ w1 hw h0 hc hg hf hd
      have d3 := hd ⟨3, .data⟩ (by simp) rfl _ _ _ rfl rfl rfl
      refine ⟨fun _ => ?_, fun h => by cases h⟩
      clear h0 hg hd
      clear hc hf
      refine Gives.value (w' := w1) ?_ ⟨Chg.refl _ _, rfl⟩
      go_simp
  · intro vs W0 hw hr
    have h4 := hr 4 _ rfl
    have h5 := hr 5 _ rfl
    clear hr
    dsimp only [putsL, restL]
    simp only [Act.put, List.setIfInBounds_toArray, List.set_cons_zero, List.set_cons_succ]
    simp only [Nat.zero_add, Nat.reduceAdd]
    rw [h4, h5]
    have HC0 : Hid (Chg (fun i => w.heap.size ≤ i) w W0) := Lib.hid (HU0.out.then hw (fun _ h => h.elim))
    clear hw h4 h5 HU0 HCN HCS
    go_wp2_with fail
    refine (vnew W0 8 16 (by unfold FormOk; omega)).mono ?_
    rintro e W1 hp
    obtain ⟨p, b, sv, rfl, hd1, ho1, hb1⟩ := hp
    have HD1 := Lib.hid hd1
    have HOW1 : Hid (∀ j, OwnD p b sv j → w.heap.size ≤ j) := Lib.hid (fun j hj => Nat.le_trans HC0.out.size (ho1 j hj))
    have HC1 := Lib.hid (HC0.out.then (up_below hb1) (fun _ h => h.elim))
    clear hd1 ho1 hb1 HC0
    go_wp2_with fail
    refine (vnew_any W1 n size HN.out HS.out).mono ?_
    rintro e W2 hp
    have hu2 : Up W1 W2 := by
      rcases hp with ⟨_, _, rfl⟩ | ⟨_, _, _, _, _, _, _, hb⟩
      · exact Chg.refl _ _
      · exact up_below hb
    have HD2 := Lib.hid (HD1.out.up hu2)
    have HC2 := Lib.hid (HC1.out.then hu2 (fun _ h => h.elim))
    have HS1 := Lib.hid (small_any W2 _ os1 ds1 (HO1.out.below HC2.out) 30)
    obtain ⟨ov, e1, hov⟩ : ∃ ov : Option Addr, e = .returned (.pointer ov) ∧ ((ov = none ∧ ¬ FormOk n size) ∨ (FormOk n size ∧ ∃ po bo svo, ov = some ⟨po, 0, none⟩ ∧ DskV W2 po bo svo (freshI n.toNat size.toNat) 0 ∧ ∀ j, OwnD po bo svo j → ¬ OwnD p b sv j)) := by
      rcases hp with ⟨h1, rfl, _⟩ | ⟨h1, po, bo, svo, rfl, h3, h4, _⟩
      · exact ⟨none, rfl, .inl ⟨rfl, h1⟩⟩
      · exact ⟨_, rfl, .inr ⟨h1, po, bo, svo, rfl, h3, fun j hj hj2 => by have := h4 j hj; have := HD1.out.lt j hj2; omega⟩⟩
    subst e1
    have HOV := Lib.hid hov
    clear hov hp hu2 HD1 HC1
    go_wp2_with fail
    refine HS1.out.mono ?_
    rintro e W3 ⟨rfl, hb3⟩
    have HC3 := Lib.hid (HC2.out.then (up_below hb3) (fun _ h => h.elim))
    have HU3 := Lib.hid (up_below hb3)
    clear hb3 HS1
    cases hsm1 : (smallB os1 && decide ((os1.length : Int) ≤ 30)) with
    | false =>
      have HA := Lib.hid (awake_any W3)
      go_wp2_with (go_at_call 13; refine HA.out.mono ?_; rintro e w' ⟨rfl, hb⟩)
      go_ret
      exact ⟨rfl, (HC3.out.then (up_below hb) (fun _ h => h.elim)).below (Nat.le_refl _) (fun _ h => h)⟩
    | true =>
      obtain ⟨hl1, hsm1'⟩ := small_all (n := 30) hsm1
      have HSM1 := Lib.hid hsm1'
      clear hsm1 hsm1'
      have HS2 := Lib.hid (small_any W3 _ os2 ds2 (HO2.out.below HC3.out) 30)
      go_wp2_with fail
      refine HS2.out.mono ?_
      rintro e W4 ⟨rfl, hb4⟩
      have HC4 := Lib.hid (HC3.out.then (up_below hb4) (fun _ h => h.elim))
      have HU4 := Lib.hid (HU3.out.trans (up_below hb4))
      clear hb4 HS2 HU3 HC3
      cases hsm2 : (smallB os2 && decide ((os2.length : Int) ≤ 30)) with
      | false =>
        have HA := Lib.hid (awake_any W4)
        go_wp2_with (go_at_call 13; refine HA.out.mono ?_; rintro e w' ⟨rfl, hb⟩)
        go_ret
        exact ⟨rfl, (HC4.out.then (up_below hb) (fun _ h => h.elim)).below (Nat.le_refl _) (fun _ h => h)⟩
      | true =>
        obtain ⟨hl2, hsm2'⟩ := small_all (n := 30) hsm2
        have HSM2 := Lib.hid hsm2'
        clear hsm2 hsm2'
        by_cases hn1 : 100 < n
        · have HA := Lib.hid (awake_any W4)
          go_wp2_with (go_at_call 13; refine HA.out.mono ?_; rintro e w' ⟨rfl, hb⟩)
          go_ret
          exact ⟨rfl, (HC4.out.then (up_below hb) (fun _ h => h.elim)).below (Nat.le_refl _) (fun _ h => h)⟩
        rcases HOV.out with ⟨rfl, hf⟩ | ⟨hform, po, bo, svo, rfl, hdo, hsepo⟩
        · have HA := Lib.hid (awake_any W4)
          go_wp2_with (go_at_call 13; refine HA.out.mono ?_; rintro e w' ⟨rfl, hb⟩)
          go_ret
          exact ⟨rfl, (HC4.out.then (up_below hb) (fun _ h => h.elim)).below (Nat.le_refl _) (fun _ h => h)⟩
        have HF := Lib.hid hform
        have HDO := Lib.hid (hdo.up HU4.out)
        have HSEP := Lib.hid hsepo
        have HD4 := Lib.hid (HD2.out.up HU4.out)
        clear HOV hform hdo hsepo HD2 HC2 HU4
        go_wp2_with fail
        go_loopw [61] (fun i wr => ∃ (k : Nat) (x : Dk), k ≤ os1.length ∧ i = .int .i64 k ∧ DskV wr p b sv x k ∧ W8 x k ∧ Chg (OwnD p b sv) W4 wr) (fun i _ => os1.length - (intOf i).toNat)
        case atStart => exact ⟨0, freshI 8 16, by omega, rfl, HD4.out, W8.fresh, Chg.refl _ _⟩
        case round =>
          rename World => wr
          obtain ⟨k, x, hk, rfl, hd, hwf, hch⟩ := hrel
          by_cases hk2 : (k : Int) < os1.length
          · have ho := HO1.out.below (HC4.out.then hch (fun i hi => .inr (HOW1.out i hi)))
            obtain ⟨bb, off, cc, he, _, _, hcells⟩ := ho.cells (by omega)
            injection he with e1 e2 e3
            subst e1 e3
            obtain ⟨r0, r1, r2, r3, r4⟩ := hcells k (by omega)
            have hdd := ho.dat k (by omega)
            have hll := ho.lost k (by omega)
            have hll0 := HO1.out.lost k (by omega)
            have hok := HOK1.out k (by omega)
            have hsm := HSM1.out k (by omega)
            obtain ⟨⟨d1, d2⟩, hde⟩ : ∃ d, ds1.getD k uu = d := ⟨_, rfl⟩
            obtain ⟨o, hoe⟩ : ∃ o, os1.getD k default = o := ⟨_, rfl⟩
            rw [hde] at r3 r4 hdd hll hll0
            rw [hoe] at r0 r1 r2 hdd hll hll0 hok hsm
            dsimp only at r3 r4 hdd hll hll0
            obtain ⟨A1, c1, rfl, x1, x2⟩ := hdd.shape
            obtain ⟨A2, c2, rfl, y1, y2⟩ := hll.shape
            have HOKO := Lib.hid hok
            have HLL0 := Lib.hid hll0
            have HD := Lib.hid hd
            have HWF := Lib.hid hwf
            have HCH := Lib.hid hch
            have HDD := Lib.hid hdd
            have HLL := Lib.hid hll
            obtain ⟨hsm1, hsm2⟩ := hsm
            clear hd hwf hch hdd hll hll0 ho hcells hde hoe hok
            by_cases hk1 : o.kind = 1
            · rw [hk1] at r0
              have hu : Up wr (wr.alloc (.cells #[.int .i64 1, .int .i64 o.sec, .int .i64 o.num, .slice A1 o.dat.length c1, .slice A2 o.lost.length c2] 31)) := (Chg.refl _ wr).alloc _
              have HCALL := Lib.hid (vwrite _ p b sv x k (HD.out.up hu) HWF.out.wf (by omega) o.sec (.slice A1 o.dat.length c1) o.dat (Src.chg HDD.out hu (fun _ _ _ h => h) (by decide)) (by omega))
              have hwf2 := HWF.out.write o.sec o.dat
              have HW2 := Lib.hid hwf2
              have HU := Lib.hid hu
              clear hwf2 hu
              go_wp2_with fail
              refine HCALL.out.mono ?_
              rintro e W6 ⟨rfl, hd2, hc2⟩
              have HD2 := Lib.hid hd2
              have HC2 := Lib.hid ((HCH.out.then HU.out (fun _ h => h.elim)).trans hc2)
              clear hd2 hc2 HCALL
              go_wp2_with fail
              exact ⟨⟨k + 1, _, by omega, by go_num, HD2.out, HW2.out, HC2.out⟩, by simp [intOf]; omega⟩
            have hk1' : (o.kind == 1) = false := by rw [beq_eq_false_iff_ne]; exact hk1
            by_cases hk2 : o.kind = 2
            · rw [hk2] at r0
              have hu : Up wr (wr.alloc (.cells #[.int .i64 2, .int .i64 o.sec, .int .i64 o.num, .slice A1 o.dat.length c1, .slice A2 o.lost.length c2] 31)) := (Chg.refl _ wr).alloc _
              have HCALL := Lib.hid (vflush _ p b sv x k (HD.out.up hu) HWF.out.wf (by omega))
              have hwf2 := HWF.out.flush
              have HW2 := Lib.hid hwf2
              have HU := Lib.hid hu
              clear hwf2 hu
              go_wp2_with fail
              refine HCALL.out.mono ?_
              rintro e W6 ⟨rfl, hd2, hc2⟩
              have HD2 := Lib.hid hd2
              have HC2 := Lib.hid ((HCH.out.then HU.out (fun _ h => h.elim)).trans hc2)
              clear hd2 hc2 HCALL
              go_wp2_with fail
              exact ⟨⟨k + 1, _, by omega, by go_num, HD2.out, HW2.out, HC2.out⟩, by simp [intOf]; omega⟩
            have hk2' : (o.kind == 2) = false := by rw [beq_eq_false_iff_ne]; exact hk2
            have HU : Hid (Up wr (wr.alloc (.cells #[.int .i64 o.kind, .int .i64 o.sec, .int .i64 o.num, .slice A1 o.dat.length c1, .slice A2 o.lost.length c2] 31))) := Lib.hid ((Chg.refl _ wr).alloc _)
            go_wp2_with fail
            exact ⟨⟨k + 1, x, by omega, by go_num, (HD.out.up HU.out).le (Nat.le_succ k), HWF.out.mono (Nat.le_succ k), HCH.out.then HU.out (fun _ h => h.elim)⟩, by simp [intOf]; omega⟩
          · obtain rfl : k = os1.length := by omega
            have HD := Lib.hid hd
            have HW8 := Lib.hid hwf
            have hc5 := HC4.out.then hch (fun i hi => .inr (HOW1.out i hi))
            have HC5 := Lib.hid hc5
            have HDF := Lib.hid (vdiffer wr p b po bo sv svo x _ _ 0 hd (HDO.out.keep HD4.out HSEP.out hch) hwf.wf)
            clear hd hwf hch hc5
            go_wp2_with fail
            refine HDF.out.mono ?_
            rintro e W6 hp
            obtain ⟨va, La, rfl, hLa, hrow, hb6⟩ := hp
            have HD6 := Lib.hid (HD.out.up (up_below hb6))
            have HC6 := Lib.hid (HC5.out.then (up_below hb6) (fun _ h => h.elim))
            obtain ⟨Aa, ca, rfl⟩ := own_shape hrow
            clear hb6 HDF hrow HD HC5
            have hal : (AlikeB x (freshI n.toNat size.toNat) = true ∧ n = 8 ∧ size = 16) ∨ (AlikeB x (freshI n.toNat size.toNat) = false ∧ La.length = 0 ∧ (n ≠ 8 ∨ n = 8 ∧ size ≠ 16)) := by
              have h0 := HF.out
              unfold FormOk at h0
              have e1 : AlikeB x (freshI n.toNat size.toNat) = (decide (n = 8) && decide (size = 16)) := by
                unfold AlikeB
                rw [HW8.out.num, HW8.out.size, Bool.eq_iff_iff]
                simp [freshI]
                omega
              rw [hLa, e1]
              by_cases q1 : n = 8 <;> by_cases q2 : size = 16 <;> simp [q1, q2]
            clear hLa
            rcases hal with ⟨ha, hq1, hq2⟩ | ⟨ha, hl0, hq1 | ⟨hq1, hq2⟩⟩
            · have q1 : (n == 8) = true := by rw [beq_iff_eq]; exact hq1
              have q2 : (size == 16) = true := by rw [beq_iff_eq]; exact hq2
              rw [ha]
              clear ha hq1 hq2
              go_wp2_with fail
              refine (vcopy W6 p b sv x _ HD6.out HW8.out.wf).mono ?_
              rintro e W7 hp
              obtain ⟨q, b2, sv2, rfl, hdc, hoc, hb7⟩ := hp
              have HDC := Lib.hid hdc
              have HD7 := Lib.hid (HD6.out.up (up_below hb7))
              have HOC : Hid (∀ j, OwnD q b2 sv2 j → w.heap.size ≤ j) := Lib.hid (fun j hj => Nat.le_trans HC6.out.size (hoc j hj))
              have HSEP7 : Hid (∀ j, OwnD p b sv j → ¬ OwnD q b2 sv2 j) := Lib.hid (fun j hj hj2 => by have := hoc j hj2; have := HD6.out.lt j hj; omega)
              have HC7 := Lib.hid (HC6.out.then (up_below hb7) (fun _ h => h.elim))
              clear hdc hoc hb7 HD6 HC6
              go_wp2_with fail
              go_loopw [109] (fun i wr => ∃ (k : Nat) (y : Dk), k ≤ os2.length ∧ i = .int .i64 k ∧ DskV wr q b2 sv2 y (os1.length + k) ∧ W8 y (os1.length + k) ∧ Chg (OwnD q b2 sv2) W7 wr) (fun i _ => os2.length - (intOf i).toNat)
              case atStart => exact ⟨0, x, by omega, rfl, HDC.out, HW8.out, Chg.refl _ _⟩
              case round =>
                rename World => wr
                obtain ⟨k, y, hk, rfl, hd, hwf, hch⟩ := hrel
                by_cases hk2 : (k : Int) < os2.length
                · have ho := HO2.out.below (HC7.out.then hch (fun i hi => .inr (HOC.out i hi)))
                  obtain ⟨bb, off, cc, he, _, _, hcells⟩ := ho.cells (by omega)
                  injection he with e1 e2 e3
                  subst e1 e3
                  obtain ⟨r0, r1, r2, r3, r4⟩ := hcells k (by omega)
                  have hdd := ho.dat k (by omega)
                  have hll := ho.lost k (by omega)
                  have hll0 := HO2.out.lost k (by omega)
                  have hok := HOK2.out k (by omega)
                  have hsm := HSM2.out k (by omega)
                  obtain ⟨⟨d1, d2⟩, hde⟩ : ∃ d, ds2.getD k uu = d := ⟨_, rfl⟩
                  obtain ⟨o, hoe⟩ : ∃ o, os2.getD k default = o := ⟨_, rfl⟩
                  rw [hde] at r3 r4 hdd hll hll0
                  rw [hoe] at r0 r1 r2 hdd hll hll0 hok hsm
                  dsimp only at r3 r4 hdd hll hll0
                  obtain ⟨A1, c1, rfl, x1, x2⟩ := hdd.shape
                  obtain ⟨A2, c2, rfl, y1, y2⟩ := hll.shape
                  have HOKO := Lib.hid hok
                  have HLL0 := Lib.hid hll0
                  have HD := Lib.hid hd
                  have HWF := Lib.hid hwf
                  have HCH := Lib.hid hch
                  have HDD := Lib.hid hdd
                  have HLL := Lib.hid hll
                  obtain ⟨hsm1, hsm2⟩ := hsm
                  clear hd hwf hch hdd hll hll0 ho hcells hde hoe hok
                  by_cases hk1 : o.kind = 1
                  · rw [hk1] at r0
                    have hu : Up wr (wr.alloc (.cells #[.int .i64 1, .int .i64 o.sec, .int .i64 o.num, .slice A1 o.dat.length c1, .slice A2 o.lost.length c2] 31)) := (Chg.refl _ wr).alloc _
                    have HCALL := Lib.hid (vwrite _ q b2 sv2 y (os1.length + k) (HD.out.up hu) HWF.out.wf (by omega) o.sec (.slice A1 o.dat.length c1) o.dat (Src.chg HDD.out hu (fun _ _ _ h => h) (by decide)) (by omega))
                    have hwf2 := HWF.out.write o.sec o.dat
                    have HW2 := Lib.hid hwf2
                    have HU := Lib.hid hu
                    clear hwf2 hu
                    go_wp2_with fail
                    refine HCALL.out.mono ?_
                    rintro e W6 ⟨rfl, hd2, hc2⟩
                    have HD2 := Lib.hid hd2
                    have HC2 := Lib.hid ((HCH.out.then HU.out (fun _ h => h.elim)).trans hc2)
                    clear hd2 hc2 HCALL
                    go_wp2_with fail
                    exact ⟨⟨k + 1, _, by omega, by go_num, HD2.out, HW2.out, HC2.out⟩, by simp [intOf]; omega⟩
                  have hk1' : (o.kind == 1) = false := by rw [beq_eq_false_iff_ne]; exact hk1
                  by_cases hk5 : o.kind = 5
                  · rw [hk5] at r0
                    have hu : Up wr (wr.alloc (.cells #[.int .i64 5, .int .i64 o.sec, .int .i64 o.num, .slice A1 o.dat.length c1, .slice A2 o.lost.length c2] 31)) := (Chg.refl _ wr).alloc _
                    have HCALL := Lib.hid (vcrash _ q b2 sv2 y (os1.length + k) (HD.out.up hu) HWF.out.wf (.slice A2 o.lost.length c2) o.lost (Src.chg HLL.out hu (fun _ _ _ h => h) (by decide)) HOKO.out.2.2.2.2 (by omega) (fun g hg h0 hown => by have := src_lt HLL0.out h0 (by decide) g hg; have := HOC.out g hown; omega))
                    have hwf2 := HWF.out.crash o.lost
                    have HW2 := Lib.hid (hwf2.mono (Nat.le_succ (os1.length + k)))
                    have HU := Lib.hid hu
                    clear hwf2 hu
                    go_wp2_with fail
                    refine HCALL.out.mono ?_
                    rintro e W6 ⟨⟨u6, rfl⟩, hd2, hc2⟩
                    have HD2 := Lib.hid (hd2.le (Nat.le_succ (os1.length + k)))
                    have HC2 := Lib.hid ((HCH.out.then HU.out (fun _ h => h.elim)).trans hc2)
                    clear hd2 hc2 HCALL
                    go_wp2_with fail
                    exact ⟨⟨k + 1, _, by omega, by go_num, HD2.out, HW2.out, HC2.out⟩, by simp [intOf]; omega⟩
                  have hk5' : (o.kind == 5) = false := by rw [beq_eq_false_iff_ne]; exact hk5
                  by_cases hk6 : o.kind = 6
                  · rw [hk6] at r0
                    have hu : Up wr (wr.alloc (.cells #[.int .i64 6, .int .i64 o.sec, .int .i64 o.num, .slice A1 o.dat.length c1, .slice A2 o.lost.length c2] 31)) := (Chg.refl _ wr).alloc _
                    have HCALL := Lib.hid (vtamper _ q b2 sv2 y (os1.length + k) (HD.out.up hu) HWF.out.wf o.sec (.slice A1 o.dat.length c1) o.dat (Src.chg HDD.out hu (fun _ _ _ h => h) (by decide)) (by omega))
                    have hwf2 := HWF.out.tamper o.sec o.dat
                    have HW2 := Lib.hid (hwf2.mono (Nat.le_succ (os1.length + k)))
                    have HU := Lib.hid hu
                    clear hwf2 hu
                    go_wp2_with fail
                    refine HCALL.out.mono ?_
                    rintro e W6 ⟨rfl, hd2, hc2⟩
                    have HD2 := Lib.hid (hd2.le (Nat.le_succ (os1.length + k)))
                    have HC2 := Lib.hid ((HCH.out.then HU.out (fun _ h => h.elim)).trans hc2)
                    clear hd2 hc2 HCALL
                    go_wp2_with fail
                    exact ⟨⟨k + 1, _, by omega, by go_num, HD2.out, HW2.out, HC2.out⟩, by simp [intOf]; omega⟩
                  have hk6' : (o.kind == 6) = false := by rw [beq_eq_false_iff_ne]; exact hk6
                  have HU : Hid (Up wr (wr.alloc (.cells #[.int .i64 o.kind, .int .i64 o.sec, .int .i64 o.num, .slice A1 o.dat.length c1, .slice A2 o.lost.length c2] 31))) := Lib.hid ((Chg.refl _ wr).alloc _)
                  go_wp2_with fail
                  exact ⟨⟨k + 1, y, by omega, by go_num, (HD.out.up HU.out).le (Nat.le_succ (os1.length + k)), HWF.out.mono (Nat.le_succ (os1.length + k)), HCH.out.then HU.out (fun _ h => h.elim)⟩, by simp [intOf]; omega⟩
                · obtain rfl : k = os2.length := by omega
                  have HC8 := Lib.hid (HC7.out.then hch (fun i hi => .inr (HOC.out i hi)))
                  have HDD := Lib.hid (HD7.out.keep HDC.out HSEP7.out hch)
                  have HDY := Lib.hid hd
                  have HWY := Lib.hid hwf
                  have HDF2 := Lib.hid (vdiffer wr q b2 p b sv2 sv y x _ _ hd HDD.out hwf.wf)
                  clear hd hwf hch
                  go_wp2_with fail
                  refine HDF2.out.mono ?_
                  rintro e W9 hp
                  obtain ⟨vg, L, rfl, hL, hrow, hb9⟩ := hp
                  have hal2 : AlikeB y x = true := by
                    unfold AlikeB
                    rw [HWY.out.num, HWY.out.size, HW8.out.num, HW8.out.size]; rfl
                  rw [hal2, if_pos rfl] at hL
                  rw [hal2]
                  obtain ⟨Ag, cg, rfl⟩ := own_shape hrow
                  have HL : Hid (L = diffI y x 8) := Lib.hid (by rw [hL]; unfold differI; rw [HWY.out.num])
                  have HROW := Lib.hid hrow
                  have HDY9 := Lib.hid (HDY.out.up (up_below hb9))
                  have HDD9 := Lib.hid (HDD.out.up (up_below hb9))
                  have HC9 := Lib.hid (HC8.out.then (up_below hb9) (fun _ h => h.elim))
                  clear hL hrow hb9 hal2 HDY HDD HC8 HDF2
                  go_wp2_with fail
                  go_loopw [20, 144] (fun kk i wr => ∃ (k : Nat), k ≤ 8 ∧ i = .int .i64 k ∧ kk = .int .i64 (diffI y x k).length ∧ Up W9 wr) (fun _ i _ => 8 - (intOf i).toNat)
                  case atStart => exact ⟨0, by omega, rfl, rfl, Chg.refl _ _⟩
                  case round =>
                    rename World => wr
                    obtain ⟨k, hk, rfl, rfl, hu⟩ := hrel
                    by_cases hk2 : (k : Int) < 8
                    · have hr1 := vread wr q b2 sv2 y _ (HDY9.out.up hu) HWY.out.wf (k : Int) (by unfold I64; omega)
                      rw [HWY.out.live.read k (by rw [HWY.out.num]; omega)] at hr1
                      dsimp only at hr1
                      have HR1 := Lib.hid hr1
                      have HU := Lib.hid hu
                      clear hr1 hu
                      go_wp2_with fail
                      refine HR1.out.mono ?_
                      rintro e wa ⟨va, rfl, hva, hba⟩
                      have HUA := Lib.hid (HU.out.trans (up_below hba))
                      have hr2 := vread wa p b sv x _ (HDD9.out.up HUA.out) HW8.out.wf (k : Int) (by unfold I64; omega)
                      rw [HW8.out.live.read k (by rw [HW8.out.num]; omega)] at hr2
                      dsimp only at hr2
                      have HR2 := Lib.hid hr2
                      have HVA := Lib.hid hva
                      clear hr2 hva hba HR1 HU
                      go_wp2_with fail
                      refine HR2.out.mono ?_
                      rintro e wb ⟨vb, rfl, hvb, hbb⟩
                      have s1 := sl_string (slb_own (own_chg HVA.out (up_below hbb) (fun _ _ h => h)))
                      have s2 := sl_string (slb_own hvb)
                      have HUB := Lib.hid (HUA.out.trans (up_below hbb))
                      have hat := diffI_at y x k 8 (by omega)
                      have hsu := diffI_succ y x k
                      rw [← HL.out] at hat
                      have heq : eqS (nowI y k) (nowI x k) = ((strOfNums (nowI y k)).toList == (strOfNums (nowI x k)).toList) := rfl
                      obtain ⟨z1, e1⟩ : ∃ z, strOfNums (nowI y k) = z := ⟨_, rfl⟩
                      obtain ⟨z2, e2⟩ : ∃ z, strOfNums (nowI x k) = z := ⟨_, rfl⟩
                      rw [e1, e2] at heq
                      rw [e1] at s1
                      rw [e2] at s2
                      clear e1 e2 hvb hbb HVA HR2 HUA
                      cases hbq : (z1.toList == z2.toList) with
                      | true =>
                        rw [heq, hbq, if_pos rfl] at hsu
                        have HSU := Lib.hid hsu
                        clear hat hsu heq
                        go_wp2_with fail
                        exact ⟨⟨k + 1, by omega, by go_num, by rw [HSU.out], HUB.out⟩, by simp [intOf]; omega⟩
                      | false =>
                        rw [heq, hbq, if_neg (by simp)] at hsu
                        have hat' := hat (heq.trans hbq)
                        have hlt := (List.getElem?_eq_some_iff.1 hat').1
                        have hl2 : L.length ≤ 8 := by rw [HL.out]; exact diffI_len y x 8
                        have hrow := own_chg HROW.out HUB.out (fun _ _ h => h)
                        have hcz : (i64s L)[(diffI y x k).length]? = some (.int .i64 k) := by simp [i64s, hat']
                        obtain ⟨g, rfl⟩ : ∃ g, Ag = some ⟨g, 0, none⟩ := by
                          rcases hrow.2 with ⟨_, hz⟩ | ⟨g, cap, cur, he, _⟩
                          · omega
                          · injection he with e1; exact ⟨g, e1⟩
                        have hce := World.ownsRow.cells hrow rfl _ _ hcz
                        rw [addr_add, Nat.zero_add] at hce
                        have HSU := Lib.hid hsu
                        clear hat hat' hsu heq hrow hcz
                        go_wp2_with fail
                        exact ⟨⟨k + 1, by omega, by go_num, by rw [HSU.out]; simp, HUB.out⟩, by simp [intOf]; omega⟩
                    · obtain rfl : k = 8 := by omega
                      rw [← HL.out]
                      have HCE := Lib.hid (HC9.out.then hu (fun _ h => h.elim))
                      clear hu
                      have HA := Lib.hid (awake_any wr)
                      go_wp2_with (go_at_call 13; refine HA.out.mono ?_; rintro e w' ⟨rfl, hb⟩)
                      go_ret
                      exact ⟨rfl, (HCE.out.then (up_below hb) (fun _ h => h.elim)).below (Nat.le_refl _) (fun _ h => h)⟩
            · have q1 : (n == 8) = false := by rw [beq_eq_false_iff_ne]; exact hq1
              have q3 : ((La.length : Int) != 0) = false := by rw [hl0]; rfl
              rw [ha]
              clear ha hq1 hl0
              go_wp2_with fail
              refine (vcopy W6 p b sv x _ HD6.out HW8.out.wf).mono ?_
              rintro e W7 hp
              obtain ⟨q, b2, sv2, rfl, hdc, hoc, hb7⟩ := hp
              have HDC := Lib.hid hdc
              have HD7 := Lib.hid (HD6.out.up (up_below hb7))
              have HOC : Hid (∀ j, OwnD q b2 sv2 j → w.heap.size ≤ j) := Lib.hid (fun j hj => Nat.le_trans HC6.out.size (hoc j hj))
              have HSEP7 : Hid (∀ j, OwnD p b sv j → ¬ OwnD q b2 sv2 j) := Lib.hid (fun j hj hj2 => by have := hoc j hj2; have := HD6.out.lt j hj; omega)
              have HC7 := Lib.hid (HC6.out.then (up_below hb7) (fun _ h => h.elim))
              clear hdc hoc hb7 HD6 HC6
              go_wp2_with fail
              go_loopw [109] (fun i wr => ∃ (k : Nat) (y : Dk), k ≤ os2.length ∧ i = .int .i64 k ∧ DskV wr q b2 sv2 y (os1.length + k) ∧ W8 y (os1.length + k) ∧ Chg (OwnD q b2 sv2) W7 wr) (fun i _ => os2.length - (intOf i).toNat)
              case atStart => exact ⟨0, x, by omega, rfl, HDC.out, HW8.out, Chg.refl _ _⟩
              case round =>
                rename World => wr
                obtain ⟨k, y, hk, rfl, hd, hwf, hch⟩ := hrel
                by_cases hk2 : (k : Int) < os2.length
                · have ho := HO2.out.below (HC7.out.then hch (fun i hi => .inr (HOC.out i hi)))
                  obtain ⟨bb, off, cc, he, _, _, hcells⟩ := ho.cells (by omega)
                  injection he with e1 e2 e3
                  subst e1 e3
                  obtain ⟨r0, r1, r2, r3, r4⟩ := hcells k (by omega)
                  have hdd := ho.dat k (by omega)
                  have hll := ho.lost k (by omega)
                  have hll0 := HO2.out.lost k (by omega)
                  have hok := HOK2.out k (by omega)
                  have hsm := HSM2.out k (by omega)
                  obtain ⟨⟨d1, d2⟩, hde⟩ : ∃ d, ds2.getD k uu = d := ⟨_, rfl⟩
                  obtain ⟨o, hoe⟩ : ∃ o, os2.getD k default = o := ⟨_, rfl⟩
                  rw [hde] at r3 r4 hdd hll hll0
                  rw [hoe] at r0 r1 r2 hdd hll hll0 hok hsm
                  dsimp only at r3 r4 hdd hll hll0
                  obtain ⟨A1, c1, rfl, x1, x2⟩ := hdd.shape
                  obtain ⟨A2, c2, rfl, y1, y2⟩ := hll.shape
                  have HOKO := Lib.hid hok
                  have HLL0 := Lib.hid hll0
                  have HD := Lib.hid hd
                  have HWF := Lib.hid hwf
                  have HCH := Lib.hid hch
                  have HDD := Lib.hid hdd
                  have HLL := Lib.hid hll
                  obtain ⟨hsm1, hsm2⟩ := hsm
                  clear hd hwf hch hdd hll hll0 ho hcells hde hoe hok
                  by_cases hk1 : o.kind = 1
                  · rw [hk1] at r0
                    have hu : Up wr (wr.alloc (.cells #[.int .i64 1, .int .i64 o.sec, .int .i64 o.num, .slice A1 o.dat.length c1, .slice A2 o.lost.length c2] 31)) := (Chg.refl _ wr).alloc _
                    have HCALL := Lib.hid (vwrite _ q b2 sv2 y (os1.length + k) (HD.out.up hu) HWF.out.wf (by omega) o.sec (.slice A1 o.dat.length c1) o.dat (Src.chg HDD.out hu (fun _ _ _ h => h) (by decide)) (by omega))
                    have hwf2 := HWF.out.write o.sec o.dat
                    have HW2 := Lib.hid hwf2
                    have HU := Lib.hid hu
                    clear hwf2 hu
                    go_wp2_with fail
                    refine HCALL.out.mono ?_
                    rintro e W6 ⟨rfl, hd2, hc2⟩
                    have HD2 := Lib.hid hd2
                    have HC2 := Lib.hid ((HCH.out.then HU.out (fun _ h => h.elim)).trans hc2)
                    clear hd2 hc2 HCALL
                    go_wp2_with fail
                    exact ⟨⟨k + 1, _, by omega, by go_num, HD2.out, HW2.out, HC2.out⟩, by simp [intOf]; omega⟩
                  have hk1' : (o.kind == 1) = false := by rw [beq_eq_false_iff_ne]; exact hk1
                  by_cases hk5 : o.kind = 5
                  · rw [hk5] at r0
                    have hu : Up wr (wr.alloc (.cells #[.int .i64 5, .int .i64 o.sec, .int .i64 o.num, .slice A1 o.dat.length c1, .slice A2 o.lost.length c2] 31)) := (Chg.refl _ wr).alloc _
                    have HCALL := Lib.hid (vcrash _ q b2 sv2 y (os1.length + k) (HD.out.up hu) HWF.out.wf (.slice A2 o.lost.length c2) o.lost (Src.chg HLL.out hu (fun _ _ _ h => h) (by decide)) HOKO.out.2.2.2.2 (by omega) (fun g hg h0 hown => by have := src_lt HLL0.out h0 (by decide) g hg; have := HOC.out g hown; omega))
                    have hwf2 := HWF.out.crash o.lost
                    have HW2 := Lib.hid (hwf2.mono (Nat.le_succ (os1.length + k)))
                    have HU := Lib.hid hu
                    clear hwf2 hu
                    go_wp2_with fail
                    refine HCALL.out.mono ?_
                    rintro e W6 ⟨⟨u6, rfl⟩, hd2, hc2⟩
                    have HD2 := Lib.hid (hd2.le (Nat.le_succ (os1.length + k)))
                    have HC2 := Lib.hid ((HCH.out.then HU.out (fun _ h => h.elim)).trans hc2)
                    clear hd2 hc2 HCALL
                    go_wp2_with fail
                    exact ⟨⟨k + 1, _, by omega, by go_num, HD2.out, HW2.out, HC2.out⟩, by simp [intOf]; omega⟩
                  have hk5' : (o.kind == 5) = false := by rw [beq_eq_false_iff_ne]; exact hk5
                  by_cases hk6 : o.kind = 6
                  · rw [hk6] at r0
                    have hu : Up wr (wr.alloc (.cells #[.int .i64 6, .int .i64 o.sec, .int .i64 o.num, .slice A1 o.dat.length c1, .slice A2 o.lost.length c2] 31)) := (Chg.refl _ wr).alloc _
                    have HCALL := Lib.hid (vtamper _ q b2 sv2 y (os1.length + k) (HD.out.up hu) HWF.out.wf o.sec (.slice A1 o.dat.length c1) o.dat (Src.chg HDD.out hu (fun _ _ _ h => h) (by decide)) (by omega))
                    have hwf2 := HWF.out.tamper o.sec o.dat
                    have HW2 := Lib.hid (hwf2.mono (Nat.le_succ (os1.length + k)))
                    have HU := Lib.hid hu
                    clear hwf2 hu
                    go_wp2_with fail
                    refine HCALL.out.mono ?_
                    rintro e W6 ⟨rfl, hd2, hc2⟩
                    have HD2 := Lib.hid (hd2.le (Nat.le_succ (os1.length + k)))
                    have HC2 := Lib.hid ((HCH.out.then HU.out (fun _ h => h.elim)).trans hc2)
                    clear hd2 hc2 HCALL
                    go_wp2_with fail
                    exact ⟨⟨k + 1, _, by omega, by go_num, HD2.out, HW2.out, HC2.out⟩, by simp [intOf]; omega⟩
                  have hk6' : (o.kind == 6) = false := by rw [beq_eq_false_iff_ne]; exact hk6
                  have HU : Hid (Up wr (wr.alloc (.cells #[.int .i64 o.kind, .int .i64 o.sec, .int .i64 o.num, .slice A1 o.dat.length c1, .slice A2 o.lost.length c2] 31))) := Lib.hid ((Chg.refl _ wr).alloc _)
                  go_wp2_with fail
                  exact ⟨⟨k + 1, y, by omega, by go_num, (HD.out.up HU.out).le (Nat.le_succ (os1.length + k)), HWF.out.mono (Nat.le_succ (os1.length + k)), HCH.out.then HU.out (fun _ h => h.elim)⟩, by simp [intOf]; omega⟩
                · obtain rfl : k = os2.length := by omega
                  have HC8 := Lib.hid (HC7.out.then hch (fun i hi => .inr (HOC.out i hi)))
                  have HDD := Lib.hid (HD7.out.keep HDC.out HSEP7.out hch)
                  have HDY := Lib.hid hd
                  have HWY := Lib.hid hwf
                  have HDF2 := Lib.hid (vdiffer wr q b2 p b sv2 sv y x _ _ hd HDD.out hwf.wf)
                  clear hd hwf hch
                  go_wp2_with fail
                  refine HDF2.out.mono ?_
                  rintro e W9 hp
                  obtain ⟨vg, L, rfl, hL, hrow, hb9⟩ := hp
                  have hal2 : AlikeB y x = true := by
                    unfold AlikeB
                    rw [HWY.out.num, HWY.out.size, HW8.out.num, HW8.out.size]; rfl
                  rw [hal2, if_pos rfl] at hL
                  rw [hal2]
                  obtain ⟨Ag, cg, rfl⟩ := own_shape hrow
                  have HL : Hid (L = diffI y x 8) := Lib.hid (by rw [hL]; unfold differI; rw [HWY.out.num])
                  have HROW := Lib.hid hrow
                  have HDY9 := Lib.hid (HDY.out.up (up_below hb9))
                  have HDD9 := Lib.hid (HDD.out.up (up_below hb9))
                  have HC9 := Lib.hid (HC8.out.then (up_below hb9) (fun _ h => h.elim))
                  clear hL hrow hb9 hal2 HDY HDD HC8 HDF2
                  go_wp2_with fail
                  go_loopw [20, 144] (fun kk i wr => ∃ (k : Nat), k ≤ 8 ∧ i = .int .i64 k ∧ kk = .int .i64 (diffI y x k).length ∧ Up W9 wr) (fun _ i _ => 8 - (intOf i).toNat)
                  case atStart => exact ⟨0, by omega, rfl, rfl, Chg.refl _ _⟩
                  case round =>
                    rename World => wr
                    obtain ⟨k, hk, rfl, rfl, hu⟩ := hrel
                    by_cases hk2 : (k : Int) < 8
                    · have hr1 := vread wr q b2 sv2 y _ (HDY9.out.up hu) HWY.out.wf (k : Int) (by unfold I64; omega)
                      rw [HWY.out.live.read k (by rw [HWY.out.num]; omega)] at hr1
                      dsimp only at hr1
                      have HR1 := Lib.hid hr1
                      have HU := Lib.hid hu
                      clear hr1 hu
                      go_wp2_with fail
                      refine HR1.out.mono ?_
                      rintro e wa ⟨va, rfl, hva, hba⟩
                      have HUA := Lib.hid (HU.out.trans (up_below hba))
                      have hr2 := vread wa p b sv x _ (HDD9.out.up HUA.out) HW8.out.wf (k : Int) (by unfold I64; omega)
                      rw [HW8.out.live.read k (by rw [HW8.out.num]; omega)] at hr2
                      dsimp only at hr2
                      have HR2 := Lib.hid hr2
                      have HVA := Lib.hid hva
                      clear hr2 hva hba HR1 HU
                      go_wp2_with fail
                      refine HR2.out.mono ?_
                      rintro e wb ⟨vb, rfl, hvb, hbb⟩
                      have s1 := sl_string (slb_own (own_chg HVA.out (up_below hbb) (fun _ _ h => h)))
                      have s2 := sl_string (slb_own hvb)
                      have HUB := Lib.hid (HUA.out.trans (up_below hbb))
                      have hat := diffI_at y x k 8 (by omega)
                      have hsu := diffI_succ y x k
                      rw [← HL.out] at hat
                      have heq : eqS (nowI y k) (nowI x k) = ((strOfNums (nowI y k)).toList == (strOfNums (nowI x k)).toList) := rfl
                      obtain ⟨z1, e1⟩ : ∃ z, strOfNums (nowI y k) = z := ⟨_, rfl⟩
                      obtain ⟨z2, e2⟩ : ∃ z, strOfNums (nowI x k) = z := ⟨_, rfl⟩
                      rw [e1, e2] at heq
                      rw [e1] at s1
                      rw [e2] at s2
                      clear e1 e2 hvb hbb HVA HR2 HUA
                      cases hbq : (z1.toList == z2.toList) with
                      | true =>
                        rw [heq, hbq, if_pos rfl] at hsu
                        have HSU := Lib.hid hsu
                        clear hat hsu heq
                        go_wp2_with fail
                        exact ⟨⟨k + 1, by omega, by go_num, by rw [HSU.out], HUB.out⟩, by simp [intOf]; omega⟩
                      | false =>
                        rw [heq, hbq, if_neg (by simp)] at hsu
                        have hat' := hat (heq.trans hbq)
                        have hlt := (List.getElem?_eq_some_iff.1 hat').1
                        have hl2 : L.length ≤ 8 := by rw [HL.out]; exact diffI_len y x 8
                        have hrow := own_chg HROW.out HUB.out (fun _ _ h => h)
                        have hcz : (i64s L)[(diffI y x k).length]? = some (.int .i64 k) := by simp [i64s, hat']
                        obtain ⟨g, rfl⟩ : ∃ g, Ag = some ⟨g, 0, none⟩ := by
                          rcases hrow.2 with ⟨_, hz⟩ | ⟨g, cap, cur, he, _⟩
                          · omega
                          · injection he with e1; exact ⟨g, e1⟩
                        have hce := World.ownsRow.cells hrow rfl _ _ hcz
                        rw [addr_add, Nat.zero_add] at hce
                        have HSU := Lib.hid hsu
                        clear hat hat' hsu heq hrow hcz
                        go_wp2_with fail
                        exact ⟨⟨k + 1, by omega, by go_num, by rw [HSU.out]; simp, HUB.out⟩, by simp [intOf]; omega⟩
                    · obtain rfl : k = 8 := by omega
                      rw [← HL.out]
                      have HCE := Lib.hid (HC9.out.then hu (fun _ h => h.elim))
                      clear hu
                      have HA := Lib.hid (awake_any wr)
                      go_wp2_with (go_at_call 13; refine HA.out.mono ?_; rintro e w' ⟨rfl, hb⟩)
                      go_ret
                      exact ⟨rfl, (HCE.out.then (up_below hb) (fun _ h => h.elim)).below (Nat.le_refl _) (fun _ h => h)⟩
            · have q1 : (n == 8) = true := by rw [beq_iff_eq]; exact hq1
              have q2 : (size == 16) = false := by rw [beq_eq_false_iff_ne]; exact hq2
              have q3 : ((La.length : Int) != 0) = false := by rw [hl0]; rfl
              rw [ha]
              clear ha hq1 hq2 hl0
              go_wp2_with fail
              refine (vcopy W6 p b sv x _ HD6.out HW8.out.wf).mono ?_
              rintro e W7 hp
              obtain ⟨q, b2, sv2, rfl, hdc, hoc, hb7⟩ := hp
              have HDC := Lib.hid hdc
              have HD7 := Lib.hid (HD6.out.up (up_below hb7))
              have HOC : Hid (∀ j, OwnD q b2 sv2 j → w.heap.size ≤ j) := Lib.hid (fun j hj => Nat.le_trans HC6.out.size (hoc j hj))
              have HSEP7 : Hid (∀ j, OwnD p b sv j → ¬ OwnD q b2 sv2 j) := Lib.hid (fun j hj hj2 => by have := hoc j hj2; have := HD6.out.lt j hj; omega)
              have HC7 := Lib.hid (HC6.out.then (up_below hb7) (fun _ h => h.elim))
              clear hdc hoc hb7 HD6 HC6
              go_wp2_with fail
              go_loopw [109] (fun i wr => ∃ (k : Nat) (y : Dk), k ≤ os2.length ∧ i = .int .i64 k ∧ DskV wr q b2 sv2 y (os1.length + k) ∧ W8 y (os1.length + k) ∧ Chg (OwnD q b2 sv2) W7 wr) (fun i _ => os2.length - (intOf i).toNat)
              case atStart => exact ⟨0, x, by omega, rfl, HDC.out, HW8.out, Chg.refl _ _⟩
              case round =>
                rename World => wr
                obtain ⟨k, y, hk, rfl, hd, hwf, hch⟩ := hrel
                by_cases hk2 : (k : Int) < os2.length
                · have ho := HO2.out.below (HC7.out.then hch (fun i hi => .inr (HOC.out i hi)))
                  obtain ⟨bb, off, cc, he, _, _, hcells⟩ := ho.cells (by omega)
                  injection he with e1 e2 e3
                  subst e1 e3
                  obtain ⟨r0, r1, r2, r3, r4⟩ := hcells k (by omega)
                  have hdd := ho.dat k (by omega)
                  have hll := ho.lost k (by omega)
                  have hll0 := HO2.out.lost k (by omega)
                  have hok := HOK2.out k (by omega)
                  have hsm := HSM2.out k (by omega)
                  obtain ⟨⟨d1, d2⟩, hde⟩ : ∃ d, ds2.getD k uu = d := ⟨_, rfl⟩
                  obtain ⟨o, hoe⟩ : ∃ o, os2.getD k default = o := ⟨_, rfl⟩
                  rw [hde] at r3 r4 hdd hll hll0
                  rw [hoe] at r0 r1 r2 hdd hll hll0 hok hsm
                  dsimp only at r3 r4 hdd hll hll0
                  obtain ⟨A1, c1, rfl, x1, x2⟩ := hdd.shape
                  obtain ⟨A2, c2, rfl, y1, y2⟩ := hll.shape
                  have HOKO := Lib.hid hok
                  have HLL0 := Lib.hid hll0
                  have HD := Lib.hid hd
                  have HWF := Lib.hid hwf
                  have HCH := Lib.hid hch
                  have HDD := Lib.hid hdd
                  have HLL := Lib.hid hll
                  obtain ⟨hsm1, hsm2⟩ := hsm
                  clear hd hwf hch hdd hll hll0 ho hcells hde hoe hok
                  by_cases hk1 : o.kind = 1
                  · rw [hk1] at r0
                    have hu : Up wr (wr.alloc (.cells #[.int .i64 1, .int .i64 o.sec, .int .i64 o.num, .slice A1 o.dat.length c1, .slice A2 o.lost.length c2] 31)) := (Chg.refl _ wr).alloc _
                    have HCALL := Lib.hid (vwrite _ q b2 sv2 y (os1.length + k) (HD.out.up hu) HWF.out.wf (by omega) o.sec (.slice A1 o.dat.length c1) o.dat (Src.chg HDD.out hu (fun _ _ _ h => h) (by decide)) (by omega))
                    have hwf2 := HWF.out.write o.sec o.dat
                    have HW2 := Lib.hid hwf2
                    have HU := Lib.hid hu
                    clear hwf2 hu
                    go_wp2_with fail
                    refine HCALL.out.mono ?_
                    rintro e W6 ⟨rfl, hd2, hc2⟩
                    have HD2 := Lib.hid hd2
                    have HC2 := Lib.hid ((HCH.out.then HU.out (fun _ h => h.elim)).trans hc2)
                    clear hd2 hc2 HCALL
                    go_wp2_with fail
                    exact ⟨⟨k + 1, _, by omega, by go_num, HD2.out, HW2.out, HC2.out⟩, by simp [intOf]; omega⟩
                  have hk1' : (o.kind == 1) = false := by rw [beq_eq_false_iff_ne]; exact hk1
                  by_cases hk5 : o.kind = 5
                  · rw [hk5] at r0
                    have hu : Up wr (wr.alloc (.cells #[.int .i64 5, .int .i64 o.sec, .int .i64 o.num, .slice A1 o.dat.length c1, .slice A2 o.lost.length c2] 31)) := (Chg.refl _ wr).alloc _
                    have HCALL := Lib.hid (vcrash _ q b2 sv2 y (os1.length + k) (HD.out.up hu) HWF.out.wf (.slice A2 o.lost.length c2) o.lost (Src.chg HLL.out hu (fun _ _ _ h => h) (by decide)) HOKO.out.2.2.2.2 (by omega) (fun g hg h0 hown => by have := src_lt HLL0.out h0 (by decide) g hg; have := HOC.out g hown; omega))
                    have hwf2 := HWF.out.crash o.lost
                    have HW2 := Lib.hid (hwf2.mono (Nat.le_succ (os1.length + k)))
                    have HU := Lib.hid hu
                    clear hwf2 hu
                    go_wp2_with fail
                    refine HCALL.out.mono ?_
                    rintro e W6 ⟨⟨u6, rfl⟩, hd2, hc2⟩
                    have HD2 := Lib.hid (hd2.le (Nat.le_succ (os1.length + k)))
                    have HC2 := Lib.hid ((HCH.out.then HU.out (fun _ h => h.elim)).trans hc2)
                    clear hd2 hc2 HCALL
                    go_wp2_with fail
                    exact ⟨⟨k + 1, _, by omega, by go_num, HD2.out, HW2.out, HC2.out⟩, by simp [intOf]; omega⟩
                  have hk5' : (o.kind == 5) = false := by rw [beq_eq_false_iff_ne]; exact hk5
                  by_cases hk6 : o.kind = 6
                  · rw [hk6] at r0
                    have hu : Up wr (wr.alloc (.cells #[.int .i64 6, .int .i64 o.sec, .int .i64 o.num, .slice A1 o.dat.length c1, .slice A2 o.lost.length c2] 31)) := (Chg.refl _ wr).alloc _
                    have HCALL := Lib.hid (vtamper _ q b2 sv2 y (os1.length + k) (HD.out.up hu) HWF.out.wf o.sec (.slice A1 o.dat.length c1) o.dat (Src.chg HDD.out hu (fun _ _ _ h => h) (by decide)) (by omega))
                    have hwf2 := HWF.out.tamper o.sec o.dat
                    have HW2 := Lib.hid (hwf2.mono (Nat.le_succ (os1.length + k)))
                    have HU := Lib.hid hu
                    clear hwf2 hu
                    go_wp2_with fail
                    refine HCALL.out.mono ?_
                    rintro e W6 ⟨rfl, hd2, hc2⟩
                    have HD2 := Lib.hid (hd2.le (Nat.le_succ (os1.length + k)))
                    have HC2 := Lib.hid ((HCH.out.then HU.out (fun _ h => h.elim)).trans hc2)
                    clear hd2 hc2 HCALL
                    go_wp2_with fail
                    exact ⟨⟨k + 1, _, by omega, by go_num, HD2.out, HW2.out, HC2.out⟩, by simp [intOf]; omega⟩
                  have hk6' : (o.kind == 6) = false := by rw [beq_eq_false_iff_ne]; exact hk6
                  have HU : Hid (Up wr (wr.alloc (.cells #[.int .i64 o.kind, .int .i64 o.sec, .int .i64 o.num, .slice A1 o.dat.length c1, .slice A2 o.lost.length c2] 31))) := Lib.hid ((Chg.refl _ wr).alloc _)
                  go_wp2_with fail
                  exact ⟨⟨k + 1, y, by omega, by go_num, (HD.out.up HU.out).le (Nat.le_succ (os1.length + k)), HWF.out.mono (Nat.le_succ (os1.length + k)), HCH.out.then HU.out (fun _ h => h.elim)⟩, by simp [intOf]; omega⟩
                · obtain rfl : k = os2.length := by omega
                  have HC8 := Lib.hid (HC7.out.then hch (fun i hi => .inr (HOC.out i hi)))
                  have HDD := Lib.hid (HD7.out.keep HDC.out HSEP7.out hch)
                  have HDY := Lib.hid hd
                  have HWY := Lib.hid hwf
                  have HDF2 := Lib.hid (vdiffer wr q b2 p b sv2 sv y x _ _ hd HDD.out hwf.wf)
                  clear hd hwf hch
                  go_wp2_with fail
                  refine HDF2.out.mono ?_
                  rintro e W9 hp
                  obtain ⟨vg, L, rfl, hL, hrow, hb9⟩ := hp
                  have hal2 : AlikeB y x = true := by
                    unfold AlikeB
                    rw [HWY.out.num, HWY.out.size, HW8.out.num, HW8.out.size]; rfl
                  rw [hal2, if_pos rfl] at hL
                  rw [hal2]
                  obtain ⟨Ag, cg, rfl⟩ := own_shape hrow
                  have HL : Hid (L = diffI y x 8) := Lib.hid (by rw [hL]; unfold differI; rw [HWY.out.num])
                  have HROW := Lib.hid hrow
                  have HDY9 := Lib.hid (HDY.out.up (up_below hb9))
                  have HDD9 := Lib.hid (HDD.out.up (up_below hb9))
                  have HC9 := Lib.hid (HC8.out.then (up_below hb9) (fun _ h => h.elim))
                  clear hL hrow hb9 hal2 HDY HDD HC8 HDF2
                  go_wp2_with fail
                  go_loopw [20, 144] (fun kk i wr => ∃ (k : Nat), k ≤ 8 ∧ i = .int .i64 k ∧ kk = .int .i64 (diffI y x k).length ∧ Up W9 wr) (fun _ i _ => 8 - (intOf i).toNat)
                  case atStart => exact ⟨0, by omega, rfl, rfl, Chg.refl _ _⟩
                  case round =>
                    rename World => wr
                    obtain ⟨k, hk, rfl, rfl, hu⟩ := hrel
                    by_cases hk2 : (k : Int) < 8
                    · have hr1 := vread wr q b2 sv2 y _ (HDY9.out.up hu) HWY.out.wf (k : Int) (by unfold I64; omega)
                      rw [HWY.out.live.read k (by rw [HWY.out.num]; omega)] at hr1
                      dsimp only at hr1
                      have HR1 := Lib.hid hr1
                      have HU := Lib.hid hu
                      clear hr1 hu
                      go_wp2_with fail
                      refine HR1.out.mono ?_
                      rintro e wa ⟨va, rfl, hva, hba⟩
                      have HUA := Lib.hid (HU.out.trans (up_below hba))
                      have hr2 := vread wa p b sv x _ (HDD9.out.up HUA.out) HW8.out.wf (k : Int) (by unfold I64; omega)
                      rw [HW8.out.live.read k (by rw [HW8.out.num]; omega)] at hr2
                      dsimp only at hr2
                      have HR2 := Lib.hid hr2
                      have HVA := Lib.hid hva
                      clear hr2 hva hba HR1 HU
                      go_wp2_with fail
                      refine HR2.out.mono ?_
                      rintro e wb ⟨vb, rfl, hvb, hbb⟩
                      have s1 := sl_string (slb_own (own_chg HVA.out (up_below hbb) (fun _ _ h => h)))
                      have s2 := sl_string (slb_own hvb)
                      have HUB := Lib.hid (HUA.out.trans (up_below hbb))
                      have hat := diffI_at y x k 8 (by omega)
                      have hsu := diffI_succ y x k
                      rw [← HL.out] at hat
                      have heq : eqS (nowI y k) (nowI x k) = ((strOfNums (nowI y k)).toList == (strOfNums (nowI x k)).toList) := rfl
                      obtain ⟨z1, e1⟩ : ∃ z, strOfNums (nowI y k) = z := ⟨_, rfl⟩
                      obtain ⟨z2, e2⟩ : ∃ z, strOfNums (nowI x k) = z := ⟨_, rfl⟩
                      rw [e1, e2] at heq
                      rw [e1] at s1
                      rw [e2] at s2
                      clear e1 e2 hvb hbb HVA HR2 HUA
                      cases hbq : (z1.toList == z2.toList) with
                      | true =>
                        rw [heq, hbq, if_pos rfl] at hsu
                        have HSU := Lib.hid hsu
                        clear hat hsu heq
                        go_wp2_with fail
                        exact ⟨⟨k + 1, by omega, by go_num, by rw [HSU.out], HUB.out⟩, by simp [intOf]; omega⟩
                      | false =>
                        rw [heq, hbq, if_neg (by simp)] at hsu
                        have hat' := hat (heq.trans hbq)
                        have hlt := (List.getElem?_eq_some_iff.1 hat').1
                        have hl2 : L.length ≤ 8 := by rw [HL.out]; exact diffI_len y x 8
                        have hrow := own_chg HROW.out HUB.out (fun _ _ h => h)
                        have hcz : (i64s L)[(diffI y x k).length]? = some (.int .i64 k) := by simp [i64s, hat']
                        obtain ⟨g, rfl⟩ : ∃ g, Ag = some ⟨g, 0, none⟩ := by
                          rcases hrow.2 with ⟨_, hz⟩ | ⟨g, cap, cur, he, _⟩
                          · omega
                          · injection he with e1; exact ⟨g, e1⟩
                        have hce := World.ownsRow.cells hrow rfl _ _ hcz
                        rw [addr_add, Nat.zero_add] at hce
                        have HSU := Lib.hid hsu
                        clear hat hat' hsu heq hrow hcz
                        go_wp2_with fail
                        exact ⟨⟨k + 1, by omega, by go_num, by rw [HSU.out]; simp, HUB.out⟩, by simp [intOf]; omega⟩
                    · obtain rfl : k = 8 := by omega
                      rw [← HL.out]
                      have HCE := Lib.hid (HC9.out.then hu (fun _ h => h.elim))
                      clear hu
                      have HA := Lib.hid (awake_any wr)
                      go_wp2_with (go_at_call 13; refine HA.out.mono ?_; rintro e w' ⟨rfl, hb⟩)
                      go_ret
                      exact ⟨rfl, (HCE.out.then (up_below hb) (fun _ h => h.elim)).below (Nat.le_refl _) (fun _ h => h)⟩
end Go.Proofs.Ytkndnlhlglgmfaa
