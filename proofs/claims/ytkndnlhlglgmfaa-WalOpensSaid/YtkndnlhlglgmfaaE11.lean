/-
  The law 'DiskPower', walked.
-/
import Derived.Test.YtkndnlhlglgmfaaE10
namespace Go.Proofs.Ytkndnlhlglgmfaa
open Go.RowKit
/-- What an armed disk abides by. -/
def PowI (arm : Int) (x : Dk) : Prop := (arm < 0 ∧ x.left = -1 ∧ x.down = false) ∨ (0 ≤ arm ∧ 0 ≤ x.left ∧ x.left + x.done = arm ∧ (x.down = true → x.left = 0))
/-- One call. -/
def StepOk (arm : Int) (x y : Dk) (e : Int) : Prop := PowI arm y ∧
  ((0 ≤ arm ∧ x.down = true ∧ e = 30 ∧ y.down = true ∧ y.done ≤ arm) ∨ (0 ≤ arm ∧ x.down = false ∧ e = 30 ∧ y.down = true ∧ y.done ≤ arm) ∨ (0 ≤ arm ∧ x.down = false ∧ e ≠ 30 ∧ y.down = false ∧ y.done ≤ arm) ∨ (arm < 0 ∧ x.down = false ∧ e ≠ 30 ∧ y.down = false))
theorem pow_same {arm : Int} {x : Dk} (h : PowI arm x) (e : Int) (he : x.down = true ↔ e = 30) : StepOk arm x x e := by
  refine ⟨h, ?_⟩
  rcases h with ⟨h1, h2, h3⟩ | ⟨h1, h2, h3, h4⟩
  · exact .inr (.inr (.inr ⟨h1, h3, fun h => (by have := he.2 h; rw [h3] at this; cases this), h3⟩))
  · cases hd : x.down with
    | true => exact .inl ⟨h1, rfl, he.1 hd, rfl, by omega⟩
    | false => exact .inr (.inr (.inl ⟨h1, rfl, fun h => (by have := he.2 h; rw [hd] at this; cases this), rfl, by omega⟩))
theorem pow_comm {arm : Int} {x : Dk} (h : PowI arm x) (hd : x.down = false) : StepOk arm x (commI x).1 (commI x).2 := by
  unfold commI
  rcases h with ⟨h1, h2, h3⟩ | ⟨h1, h2, h3, h4⟩
  · rw [if_neg (by omega)]
    exact ⟨.inl ⟨h1, by show max (x.left - 1) (-1) = -1; omega, hd⟩, .inr (.inr (.inr ⟨h1, hd, by show (0 : Int) ≠ 30; decide, hd⟩))⟩
  · split
    · rename_i h0
      exact ⟨.inr ⟨h1, by show 0 ≤ x.left; omega, h3, fun _ => h0⟩, .inr (.inl ⟨h1, hd, rfl, rfl, by show x.done ≤ arm; omega⟩)⟩
    · refine ⟨.inr ⟨h1, by show 0 ≤ max (x.left - 1) (-1); omega, by show max (x.left - 1) (-1) + (x.done + 1) = arm; omega, fun h => ?_⟩, .inr (.inr (.inl ⟨h1, hd, by show (0 : Int) ≠ 30; decide, hd, by show x.done + 1 ≤ arm; omega⟩))⟩
      rw [show ({ x with left := max (x.left - 1) (-1), done := x.done + 1 } : Dk).down = x.down from rfl, hd] at h; cases h
theorem pow_ca {arm : Int} {x : Dk} (h : PowI arm x) (ca : Int → Option (List Int)) (has : List (List Int)) : PowI arm { x with ca := ca, has := has } := h
theorem pow_write {arm : Int} {x : Dk} (h : PowI arm x) (i : Int) (xs : List Int) : StepOk arm x (writeI x i xs).1 (writeI x i xs).2 := by
  unfold writeI
  split
  · rename_i hd
    exact pow_same h 30 ⟨fun _ => rfl, fun _ => hd⟩
  · rename_i hd
    have hd' : x.down = false := by simpa using hd
    split
    · refine pow_same h _ ⟨fun h => (by rw [hd'] at h; cases h), fun h => ?_⟩
      unfold checkI at h
      split at h
      · cases h
      · split at h <;> cases h
    · have := pow_comm (pow_ca h (updI x.ca i (some xs)) x.has) hd'
      exact this
theorem pow_flush {arm : Int} {x : Dk} (h : PowI arm x) : StepOk arm x (flushI x).1 (flushI x).2 := by
  unfold flushI
  split
  · rename_i hd
    exact pow_same h 30 ⟨fun _ => rfl, fun _ => hd⟩
  · rename_i hd
    have hd' : x.down = false := by simpa using hd
    have hc := pow_comm h hd'
    split
    · rename_i h0
      rw [h0] at hc
      exact hc
    · exact hc
theorem pow_read {arm : Int} {x : Dk} (h : PowI arm x) (i : Int) : StepOk arm x x (readI x i).2 := by
  unfold readI
  split
  · rename_i hd
    exact pow_same h 30 ⟨fun _ => rfl, fun _ => hd⟩
  · rename_i hd
    split
    · exact pow_same h 11 ⟨fun h => absurd h hd, fun h => (by cases h)⟩
    · exact pow_same h 0 ⟨fun h => absurd h hd, fun h => (by cases h)⟩
theorem pow_end {arm : Int} {x : Dk} (h : PowI arm x) : x.down = true → x.done = arm := fun hd => by
  rcases h with ⟨_, _, h3⟩ | ⟨h1, h2, h3, h4⟩
  · rw [hd] at h3; cases h3
  · have := h4 hd; omega
theorem crash_flush (x : Dk) (zs : List Int) : (flushI (crashI x zs)).2 = 0 := by
  unfold flushI
  rw [if_neg (by show ¬ false = true; decide)]
  have hc : (commI (crashI x zs)).2 = 0 := by
    unfold commI
    rw [if_neg (show ¬ (crashI x zs).left = 0 by show ¬ (-1 : Int) = 0; decide)]
  rw [if_pos hc]
theorem Dsk.le {w : World} {p b q : Nat} {x : Dk} {k l : Nat} (h : Dsk w p b q x k) (hl : k ≤ l) : Dsk w p b q x l := by
  obtain ⟨m, sv, ss, C, h1, h2, h3⟩ := h
  exact ⟨m, sv, ss, C, h1, by omega, h3⟩
set_option maxRecDepth 100000 in
set_option maxHeartbeats 4000000 in
theorem diskPower_any (w : World) (v : Value) (os : List OpI) (ds : List (Value × Value)) (h : OpsAt w v os ds) (hok : ∀ j, j < os.length → OpOk (os.getD j default)) (arm : Int) (harm : I64 arm) : Calls Try.prog 3 #[v, .int .i64 arm] w (TruePost w) := by
  obtain ⟨A, c, rfl, hc1, hc2⟩ := h.shape
  have HO := Lib.hid h
  have HOK := Lib.hid hok
  have HARM := Lib.hid harm
  clear h hok harm
  go_enter Try.func3, Try.ntmps3
  go_wp2_with fail
  refine (dnew w 8 16 (by unfold FormOk; omega)).mono ?_
  rintro e W1 ⟨p, b, rfl, hd1, hb1⟩
  have HD1 := Lib.hid hd1
  have HWF1 := Lib.hid (Wf.fresh 8 16 (by omega) (by omega))
  have hc1' : Chg (fun i => w.heap.size ≤ i) w W1 := (up_below hb1).mono (fun _ _ h => h.elim)
  have HC1 := Lib.hid hc1'
  have HS := Lib.hid (small_any W1 _ os ds (HO.out.below hc1') 60)
  clear hd1 hb1 hc1'
  go_wp2_with fail
  refine HS.out.mono ?_
  rintro e W2 ⟨rfl, hb2⟩
  have HD2 := Lib.hid (HD1.out.below hb2)
  have HC2 := Lib.hid (HC1.out.then (up_below hb2) (fun _ h => h.elim))
  clear hb2 HS HD1 HC1
  cases hsm : (smallB os && decide ((os.length : Int) ≤ 60)) with
  | false =>
    have HA := Lib.hid (awake_any W2)
    go_wp2_with (go_at_call 13; refine HA.out.mono ?_; rintro e w' ⟨rfl, hb⟩)
    go_ret
    exact ⟨rfl, (HC2.out.then (up_below hb) (fun _ h => h.elim)).below (Nat.le_refl _) (fun _ h => h)⟩
  | true =>
    rw [Bool.and_eq_true, decide_eq_true_eq] at hsm
    obtain ⟨hsm1, hsm2⟩ := hsm
    have HSM : Hid (∀ j, j < os.length → (os.getD j default).dat.length ≤ 200) := Lib.hid (fun j hj => by
      unfold smallB at hsm1
      rw [List.all_eq_true] at hsm1
      have := hsm1 (os.getD j default) (by rw [List.getD_eq_getElem?_getD, List.getElem?_eq_getElem hj]; exact List.getElem_mem _)
      simp at this
      exact this.1)
    have hlen : os.length ≤ 60 := by omega
    clear hsm1 hsm2
    have HA := Lib.hid (darm W2 p b w.heap.size _ 0 HD2.out arm)
    go_wp2_with fail
    refine HA.out.mono ?_
    rintro e W3 ⟨⟨u, rfl⟩, hd3, hc3⟩
    have HD3 := Lib.hid hd3
    have HWF3 := Lib.hid (HWF1.out.arm arm HARM.out)
    have HC3 := Lib.hid (HC2.out.then hc3 (fun i hi => .inr hi))
    have HPW3 : Hid (PowI arm { freshI 8 16 with left := max arm (-1) }) := Lib.hid (by
      by_cases h0 : arm < 0
      · exact .inl ⟨h0, by show max arm (-1) = -1; omega, rfl⟩
      · exact .inr ⟨by omega, by show 0 ≤ max arm (-1); omega, by show max arm (-1) + 0 = arm; omega, fun h => by cases h⟩)
    clear hd3 hc3 HA HD2 HC2 HWF1
    obtain ⟨x3, hx3⟩ : ∃ x3, ({ freshI 8 16 with left := max arm (-1) } : Dk) = x3 := ⟨_, rfl⟩
    rw [hx3] at HD3 HWF3 HPW3
    clear hx3
    go_wp2_with fail
    go_loopw [28] (fun i wr => ∃ (k : Nat) (x : Dk), k ≤ os.length ∧ i = .int .i64 k ∧ Dsk wr p b w.heap.size x k ∧ Wf x k ∧ PowI arm x ∧ Chg (fun i => w.heap.size ≤ i) w wr) (fun i _ => os.length - (intOf i).toNat)
    case atStart => exact ⟨0, x3, by omega, rfl, HD3.out, HWF3.out, HPW3.out, HC3.out⟩
    case round =>
      rename World => wr
      obtain ⟨k, x, hk, rfl, hd, hwf, hpw, hch⟩ := hrel
      have HWF := Lib.hid hwf
      have HPW := Lib.hid hpw
      clear hwf hpw HPW3 HWF3 HD3 HC3
      by_cases hk2 : (k : Int) < os.length
      · have ho := HO.out.below hch
        obtain ⟨bb, off, cc, he, _, _, hcells⟩ := ho.cells (by omega)
        injection he with e1 e2 e3
        subst e1 e3
        obtain ⟨r0, r1, r2, r3, r4⟩ := hcells k (by omega)
        have hdd := ho.dat k (by omega)
        have hll := ho.lost k (by omega)
        have hsec := (HOK.out k (by omega)).2.1
        have hsm := HSM.out k (by omega)
        obtain ⟨⟨d1, d2⟩, hde⟩ : ∃ d, ds.getD k uu = d := ⟨_, rfl⟩
        obtain ⟨o, hoe⟩ : ∃ o, os.getD k default = o := ⟨_, rfl⟩
        rw [hde] at r3 r4 hdd hll
        rw [hoe] at r0 r1 r2 hdd hll hsec hsm
        dsimp only at r3 r4 hdd hll
        obtain ⟨A1, c1, rfl, x1, x2⟩ := hdd.shape
        obtain ⟨A2, c2, rfl, y1, y2⟩ := hll.shape
        have hu : Up wr (wr.alloc (.cells #[.int .i64 o.kind, .int .i64 o.sec, .int .i64 o.num, .slice A1 o.dat.length c1, .slice A2 o.lost.length c2] 31)) := (Chg.refl _ wr).alloc _
        have hd5 := hd.up hu
        have hch5 := hch.then hu (fun _ h => h.elim)
        have hdd5 := Src.chg hdd hu (fun _ _ _ h => h) (by decide)
        have HDW1 := Lib.hid (ddown _ p b w.heap.size x k hd5)
        have HSEC := Lib.hid hsec
        clear hd hch hdd hll ho hcells hde hoe hu hsec
        obtain ⟨W5, hW5⟩ : ∃ W5, W5 = wr.alloc (.cells #[.int .i64 o.kind, .int .i64 o.sec, .int .i64 o.num, .slice A1 o.dat.length c1, .slice A2 o.lost.length c2] 31) := ⟨_, rfl⟩
        have hcell5 := heap_alloc_last wr (.cells #[.int .i64 o.kind, .int .i64 o.sec, .int .i64 o.num, .slice A1 o.dat.length c1, .slice A2 o.lost.length c2] 31)
        rw [← hW5] at hd5 hch5 hdd5 HDW1 hcell5
        obtain ⟨g5, hg5⟩ : ∃ g5, g5 = wr.heap.size := ⟨_, rfl⟩
        rw [← hg5] at hcell5
        have q0 := cell_of_row W5 g5 0 _ _ _ hcell5
        have q1 := cell_of_row W5 g5 1 _ _ _ hcell5
        have q3 := cell_of_row W5 g5 3 _ _ _ hcell5
        have HD5 := Lib.hid hd5
        have HC5 := Lib.hid hch5
        have HDD := Lib.hid hdd5
        clear hd5 hch5 hdd5 hcell5
        go_wp2_with fail
        rw [← hW5, ← hg5]
        clear hW5 hg5 r0 r1 r2 r3 r4
        refine HDW1.out.mono ?_
        rintro e w5' ⟨rfl, rfl⟩
        rename World => W5
        by_cases hk1 : o.kind = 1
        · rw [hk1] at q0
          have HCALL := Lib.hid (dwrite W5 p b w.heap.size x k HD5.out HWF.out (by omega) o.sec (.slice A1 o.dat.length c1) o.dat HDD.out (by omega))
          have HST := Lib.hid (pow_write HPW.out o.sec o.dat)
          have hwf2 := HWF.out.write o.sec o.dat
          obtain ⟨y, hy⟩ : ∃ y, (writeI x o.sec o.dat).1 = y := ⟨_, rfl⟩
          obtain ⟨e0, he0⟩ : ∃ e0, (writeI x o.sec o.dat).2 = e0 := ⟨_, rfl⟩
          rw [hy] at hwf2
          try rw [hy, he0] at HCALL HST
          have HW2 := Lib.hid hwf2
          clear hwf2 hy he0
          go_wp2_with fail
          refine HCALL.out.mono ?_
          rintro e W6 ⟨rfl, hd2, hc2⟩
          have HD2 := Lib.hid hd2
          have HC2 := Lib.hid (HC5.out.then hc2 (fun i hi => .inr hi))
          clear hd2 hc2 HCALL
          rcases HST.out.2 with ⟨g1, g2, g3, g4, g5⟩ | ⟨g1, g2, g3, g4, g5⟩ | ⟨g1, g2, g3, g4, g5⟩ | ⟨g1, g2, g3, g4⟩
          · have HDN := Lib.hid (ddone _ p b w.heap.size _ _ HD2.out)
            have HDW := Lib.hid (ddown _ p b w.heap.size _ _ HD2.out)
            rw [g2]
            rw [g4] at HDW
            subst g3
            go_wp2_with fail
            refine HDN.out.mono ?_
            rintro e w' ⟨rfl, rfl⟩
            go_wp2_with fail
            refine HDW.out.mono ?_
            rintro e w' ⟨rfl, rfl⟩
            go_wp2_with fail
            exact ⟨⟨k + 1, y, by omega, by go_num, HD2.out, HW2.out, HST.out.1, HC2.out⟩, by simp [intOf]; omega⟩
          · have HDN := Lib.hid (ddone _ p b w.heap.size _ _ HD2.out)
            have HDW := Lib.hid (ddown _ p b w.heap.size _ _ HD2.out)
            rw [g2]
            rw [g4] at HDW
            subst g3
            go_wp2_with fail
            refine HDN.out.mono ?_
            rintro e w' ⟨rfl, rfl⟩
            go_wp2_with fail
            refine HDW.out.mono ?_
            rintro e w' ⟨rfl, rfl⟩
            go_wp2_with fail
            exact ⟨⟨k + 1, y, by omega, by go_num, HD2.out, HW2.out, HST.out.1, HC2.out⟩, by simp [intOf]; omega⟩
          · have HDN := Lib.hid (ddone _ p b w.heap.size _ _ HD2.out)
            have HDW := Lib.hid (ddown _ p b w.heap.size _ _ HD2.out)
            rw [g2]
            rw [g4] at HDW
            have g3' : (e0 == 30) = false := by rw [beq_eq_false_iff_ne]; exact g3
            go_wp2_with fail
            refine HDN.out.mono ?_
            rintro e w' ⟨rfl, rfl⟩
            go_wp2_with fail
            refine HDW.out.mono ?_
            rintro e w' ⟨rfl, rfl⟩
            go_wp2_with fail
            exact ⟨⟨k + 1, y, by omega, by go_num, HD2.out, HW2.out, HST.out.1, HC2.out⟩, by simp [intOf]; omega⟩
          · have HDN := Lib.hid (ddone _ p b w.heap.size _ _ HD2.out)
            have HDW := Lib.hid (ddown _ p b w.heap.size _ _ HD2.out)
            rw [g2]
            rw [g4] at HDW
            have g3' : (e0 == 30) = false := by rw [beq_eq_false_iff_ne]; exact g3
            go_wp2_with fail
            refine HDW.out.mono ?_
            rintro e w' ⟨rfl, rfl⟩
            go_wp2_with fail
            refine HDW.out.mono ?_
            rintro e w' ⟨rfl, rfl⟩
            go_wp2_with fail
            exact ⟨⟨k + 1, y, by omega, by go_num, HD2.out, HW2.out, HST.out.1, HC2.out⟩, by simp [intOf]; omega⟩
        by_cases hk2 : o.kind = 2
        · rw [hk2] at q0
          clear hk1
          have HCALL := Lib.hid (dflush W5 p b w.heap.size x k HD5.out HWF.out (by omega))
          have HST := Lib.hid (pow_flush HPW.out)
          have hwf2 := HWF.out.flush
          obtain ⟨y, hy⟩ : ∃ y, (flushI x).1 = y := ⟨_, rfl⟩
          obtain ⟨e0, he0⟩ : ∃ e0, (flushI x).2 = e0 := ⟨_, rfl⟩
          rw [hy] at hwf2
          try rw [hy, he0] at HCALL HST
          have HW2 := Lib.hid hwf2
          clear hwf2 hy he0
          go_wp2_with fail
          refine HCALL.out.mono ?_
          rintro e W6 ⟨rfl, hd2, hc2⟩
          have HD2 := Lib.hid hd2
          have HC2 := Lib.hid (HC5.out.then hc2 (fun i hi => .inr hi))
          clear hd2 hc2 HCALL
          rcases HST.out.2 with ⟨g1, g2, g3, g4, g5⟩ | ⟨g1, g2, g3, g4, g5⟩ | ⟨g1, g2, g3, g4, g5⟩ | ⟨g1, g2, g3, g4⟩
          · have HDN := Lib.hid (ddone _ p b w.heap.size _ _ HD2.out)
            have HDW := Lib.hid (ddown _ p b w.heap.size _ _ HD2.out)
            rw [g2]
            rw [g4] at HDW
            subst g3
            go_wp2_with fail
            refine HDN.out.mono ?_
            rintro e w' ⟨rfl, rfl⟩
            go_wp2_with fail
            refine HDW.out.mono ?_
            rintro e w' ⟨rfl, rfl⟩
            go_wp2_with fail
            exact ⟨⟨k + 1, y, by omega, by go_num, HD2.out, HW2.out, HST.out.1, HC2.out⟩, by simp [intOf]; omega⟩
          · have HDN := Lib.hid (ddone _ p b w.heap.size _ _ HD2.out)
            have HDW := Lib.hid (ddown _ p b w.heap.size _ _ HD2.out)
            rw [g2]
            rw [g4] at HDW
            subst g3
            go_wp2_with fail
            refine HDN.out.mono ?_
            rintro e w' ⟨rfl, rfl⟩
            go_wp2_with fail
            refine HDW.out.mono ?_
            rintro e w' ⟨rfl, rfl⟩
            go_wp2_with fail
            exact ⟨⟨k + 1, y, by omega, by go_num, HD2.out, HW2.out, HST.out.1, HC2.out⟩, by simp [intOf]; omega⟩
          · have HDN := Lib.hid (ddone _ p b w.heap.size _ _ HD2.out)
            have HDW := Lib.hid (ddown _ p b w.heap.size _ _ HD2.out)
            rw [g2]
            rw [g4] at HDW
            have g3' : (e0 == 30) = false := by rw [beq_eq_false_iff_ne]; exact g3
            go_wp2_with fail
            refine HDN.out.mono ?_
            rintro e w' ⟨rfl, rfl⟩
            go_wp2_with fail
            refine HDW.out.mono ?_
            rintro e w' ⟨rfl, rfl⟩
            go_wp2_with fail
            exact ⟨⟨k + 1, y, by omega, by go_num, HD2.out, HW2.out, HST.out.1, HC2.out⟩, by simp [intOf]; omega⟩
          · have HDN := Lib.hid (ddone _ p b w.heap.size _ _ HD2.out)
            have HDW := Lib.hid (ddown _ p b w.heap.size _ _ HD2.out)
            rw [g2]
            rw [g4] at HDW
            have g3' : (e0 == 30) = false := by rw [beq_eq_false_iff_ne]; exact g3
            go_wp2_with fail
            refine HDW.out.mono ?_
            rintro e w' ⟨rfl, rfl⟩
            go_wp2_with fail
            refine HDW.out.mono ?_
            rintro e w' ⟨rfl, rfl⟩
            go_wp2_with fail
            exact ⟨⟨k + 1, y, by omega, by go_num, HD2.out, HW2.out, HST.out.1, HC2.out⟩, by simp [intOf]; omega⟩
        by_cases hk3 : o.kind = 3
        · rw [hk3] at q0
          clear hk1 hk2
          have HCALL := Lib.hid (dread W5 p b w.heap.size x k HD5.out HWF.out o.sec HSEC.out)
          have HST := Lib.hid (pow_read HPW.out o.sec)
          have HW2 := Lib.hid (HWF.out.mono (show k ≤ k + 1 by omega))
          obtain ⟨e0, he0⟩ : ∃ e0, (readI x o.sec).2 = e0 := ⟨_, rfl⟩
          rw [he0] at HST HCALL
          obtain ⟨y, hy⟩ : ∃ y, y = x := ⟨_, rfl⟩
          clear he0
          go_wp2_with fail
          refine HCALL.out.mono ?_
          rintro e W6 ⟨v6, rfl, _, hb6⟩
          have HD2 := Lib.hid ((HD5.out.below hb6).le (show k ≤ k + 1 by omega))
          have HC2 := Lib.hid (HC5.out.then (up_below hb6) (fun _ h => h.elim))
          clear hb6 HCALL
          rw [← hy] at HD2 HW2
          rw [show StepOk arm x x e0 = StepOk arm x y e0 by rw [hy]] at HST
          clear hy
          rcases HST.out.2 with ⟨g1, g2, g3, g4, g5⟩ | ⟨g1, g2, g3, g4, g5⟩ | ⟨g1, g2, g3, g4, g5⟩ | ⟨g1, g2, g3, g4⟩
          · have HDN := Lib.hid (ddone _ p b w.heap.size _ _ HD2.out)
            have HDW := Lib.hid (ddown _ p b w.heap.size _ _ HD2.out)
            rw [g2]
            rw [g4] at HDW
            subst g3
            go_wp2_with fail
            refine HDN.out.mono ?_
            rintro e w' ⟨rfl, rfl⟩
            go_wp2_with fail
            refine HDW.out.mono ?_
            rintro e w' ⟨rfl, rfl⟩
            go_wp2_with fail
            exact ⟨⟨k + 1, y, by omega, by go_num, HD2.out, HW2.out, HST.out.1, HC2.out⟩, by simp [intOf]; omega⟩
          · have HDN := Lib.hid (ddone _ p b w.heap.size _ _ HD2.out)
            have HDW := Lib.hid (ddown _ p b w.heap.size _ _ HD2.out)
            rw [g2]
            rw [g4] at HDW
            subst g3
            go_wp2_with fail
            refine HDN.out.mono ?_
            rintro e w' ⟨rfl, rfl⟩
            go_wp2_with fail
            refine HDW.out.mono ?_
            rintro e w' ⟨rfl, rfl⟩
            go_wp2_with fail
            exact ⟨⟨k + 1, y, by omega, by go_num, HD2.out, HW2.out, HST.out.1, HC2.out⟩, by simp [intOf]; omega⟩
          · have HDN := Lib.hid (ddone _ p b w.heap.size _ _ HD2.out)
            have HDW := Lib.hid (ddown _ p b w.heap.size _ _ HD2.out)
            rw [g2]
            rw [g4] at HDW
            have g3' : (e0 == 30) = false := by rw [beq_eq_false_iff_ne]; exact g3
            go_wp2_with fail
            refine HDN.out.mono ?_
            rintro e w' ⟨rfl, rfl⟩
            go_wp2_with fail
            refine HDW.out.mono ?_
            rintro e w' ⟨rfl, rfl⟩
            go_wp2_with fail
            exact ⟨⟨k + 1, y, by omega, by go_num, HD2.out, HW2.out, HST.out.1, HC2.out⟩, by simp [intOf]; omega⟩
          · have HDN := Lib.hid (ddone _ p b w.heap.size _ _ HD2.out)
            have HDW := Lib.hid (ddown _ p b w.heap.size _ _ HD2.out)
            rw [g2]
            rw [g4] at HDW
            have g3' : (e0 == 30) = false := by rw [beq_eq_false_iff_ne]; exact g3
            go_wp2_with fail
            refine HDW.out.mono ?_
            rintro e w' ⟨rfl, rfl⟩
            go_wp2_with fail
            refine HDW.out.mono ?_
            rintro e w' ⟨rfl, rfl⟩
            go_wp2_with fail
            exact ⟨⟨k + 1, y, by omega, by go_num, HD2.out, HW2.out, HST.out.1, HC2.out⟩, by simp [intOf]; omega⟩
        have n1 : (o.kind == 1) = false := by rw [beq_eq_false_iff_ne]; exact hk1
        have n2 : (o.kind == 2) = false := by rw [beq_eq_false_iff_ne]; exact hk2
        have n3 : (o.kind == 3) = false := by rw [beq_eq_false_iff_ne]; exact hk3
        go_wp2_with fail
        exact ⟨⟨k + 1, x, by omega, by go_num, HD5.out.le (by omega), HWF.out.mono (by omega), HPW.out, HC5.out⟩, by simp [intOf]; omega⟩
      · obtain rfl : k = os.length := by omega
        have HD5 := Lib.hid hd
        have HC5 := Lib.hid hch
        clear hd hch
        have HDW := Lib.hid (ddown wr p b w.heap.size x _ HD5.out)
        have HDN := Lib.hid (ddone wr p b w.heap.size x _ HD5.out)
        have HCR := Lib.hid (dcrash wr wr p b w.heap.size x _ HD5.out (Chg.refl _ wr) HWF.out (.slice none 0 0) [] (.inl ⟨rfl, rfl, rfl⟩) (fun j => by simp [I64]) (by simp) (fun g hg _ => by cases hg))
        go_wp2_with fail
        refine HDW.out.mono ?_
        rintro e w6 ⟨rfl, rfl⟩
        have HCRf : Hid (∀ W, Dsk W p b w.heap.size (crashI x []) os.length → Calls Try.prog 17 #[.pointer (some ⟨p, 0, none⟩)] W (fun e w' => e = .returned (.int .i64 0) ∧ Dsk w' p b w.heap.size (flushI (crashI x [])).1 (os.length + 1) ∧ Chg (fun j => w.heap.size ≤ j) W w')) := Lib.hid (fun W hd => by
          have := dflush W p b w.heap.size _ os.length hd (HWF.out.crash []) (by omega)
          rw [crash_flush] at this
          exact this)
        have hend : x.down = true → x.done = arm := pow_end HPW.out
        cases hdn : x.down with
        | true =>
          have hda := hend hdn
          rw [hda] at HDN
          clear hend hda hdn
          go_wp2_with fail
          refine HDN.out.mono ?_
          rintro e w7 ⟨rfl, rfl⟩
          go_wp2_with fail
          refine HCR.out.mono ?_
          rintro e w7 ⟨⟨u7, rfl⟩, hd7, hc7⟩
          have HD7 := Lib.hid hd7
          have HC7 := Lib.hid (HC5.out.then hc7 (fun i hi => .inr hi))
          have HDW7 : Hid (Calls Try.prog 15 #[.pointer (some ⟨p, 0, none⟩)] w7 (fun e w' => e = .returned (.bool false) ∧ w' = w7)) := Lib.hid (ddown w7 p b w.heap.size _ _ hd7)
          clear hd7 hc7 HCR HD5 HC5
          go_wp2_with fail
          refine HDW7.out.mono ?_
          rintro e w8 ⟨rfl, rfl⟩
          go_wp2_with fail
          refine (HCRf.out _ HD7.out).mono ?_
          rintro e w9 ⟨rfl, _, hc9⟩
          have HC9 := Lib.hid (HC7.out.then hc9 (fun i hi => .inr hi))
          clear hc9
          go_wp2_with fail
          refine (awake_any w9).mono ?_
          rintro e wa ⟨rfl, hba⟩
          go_wp2_with fail
          go_ret
          exact ⟨rfl, (HC9.out.then (up_below hba) (fun _ h => h.elim)).below (Nat.le_refl _) (fun _ h => h)⟩
        | false =>
          clear hend hdn
          go_wp2_with fail
          refine HCR.out.mono ?_
          rintro e w7 ⟨⟨u7, rfl⟩, hd7, hc7⟩
          have HD7 := Lib.hid hd7
          have HC7 := Lib.hid (HC5.out.then hc7 (fun i hi => .inr hi))
          have HDW7 : Hid (Calls Try.prog 15 #[.pointer (some ⟨p, 0, none⟩)] w7 (fun e w' => e = .returned (.bool false) ∧ w' = w7)) := Lib.hid (ddown w7 p b w.heap.size _ _ hd7)
          clear hd7 hc7 HCR HD5 HC5
          go_wp2_with fail
          refine HDW7.out.mono ?_
          rintro e w8 ⟨rfl, rfl⟩
          go_wp2_with fail
          refine (HCRf.out _ HD7.out).mono ?_
          rintro e w9 ⟨rfl, _, hc9⟩
          have HC9 := Lib.hid (HC7.out.then hc9 (fun i hi => .inr hi))
          clear hc9
          go_wp2_with fail
          refine (awake_any w9).mono ?_
          rintro e wa ⟨rfl, hba⟩
          go_wp2_with fail
          go_ret
          exact ⟨rfl, (HC9.out.then (up_below hba) (fun _ h => h.elim)).below (Nat.le_refl _) (fun _ h => h)⟩
end Go.Proofs.Ytkndnlhlglgmfaa
