/-
  The law 'DiskPlays', walked.
-/
import Derived.Test.YtkndnlhlglgmfaaE28
namespace Go.Proofs.Ytkndnlhlglgmfaa
open Go.RowKit
theorem W16.fresh (n size : Nat) (hn : 0 < n) (hn2 : n ≤ 65536) (hs : 16 ≤ size) (hs2 : size ≤ 4096) : W16 (freshI n size) 0 := ⟨Wf.fresh n size hn2 hs2, by simp [freshI]; omega, hs⟩
/-- Calls lie below what both disks own. -/
theorem step_at {w0 w : World} {p b q : Nat} {sv s1 s2 : Value} {x : Dk} {k : Nat} {o : OpI} {d1 d2 : Value} (hd : DskV w p b sv x k) (hr : RefX w q s1 s2 x) (hw : W16 x k) (hk : k ≤ 80000) (ho : OpOk o) (h1 : SlB w0 d1 o.dat) (h2 : SlI w0 d2 o.lost) (hc : Chg (fun i => w0.heap.size ≤ i) w0 w) (n1 : o.dat.length ≤ 1000) (n2 : o.lost.length ≤ 1000) (hown : ∀ j, OwnB p b q sv s1 s2 j → w0.heap.size ≤ j) : StepAt w p b q sv s1 s2 x k o d1 d2 :=
  ⟨hd, hr, hw, hk, ho, src_below h1 (by decide) hc, src_below h2 (by decide) hc, n1, n2, fun g hg h0 hn => by have := src_lt h1 h0 (by decide) g hg; have := hown g hn; omega, fun g hg h0 hn => by have := src_lt h2 h0 (by decide) g hg; have := hown g hn; omega⟩
theorem freshI_num (n size : Nat) : (freshI n size).has.length = n := by simp [freshI]
theorem stepI_num (x : Dk) (o : OpI) : (stepI x o).has.length = x.has.length := by
  unfold stepI
  split
  · exact (write_form x _ _).1
  split
  · exact (flush_form x).1
  split
  · rfl
  split
  · exact (crash_form x _).1
  split
  · exact (tamper_form x _ _).1
  · rfl
set_option maxRecDepth 100000 in
set_option maxHeartbeats 4000000 in
theorem diskPlays_any (w : World) (n size : Int) (hn : I64 n) (hs : I64 size) (v : Value) (os : List OpI) (ds : List (Value × Value)) (h : OpsAt w v os ds) (hok : ∀ j, j < os.length → OpOk (os.getD j default)) : Calls Try.prog 8 #[.int .i64 n, .int .i64 size, v] w (TruePost w) := by
  obtain ⟨A, c, rfl, hc1, hc2⟩ := h.shape
  have HO := Lib.hid h
  have HOK := Lib.hid hok
  have HNW := Lib.hid (vnew_any w n size hn hs)
  clear h hok
  go_enter Try.func8, Try.ntmps8
  go_wp2_with fail
  refine HNW.out.mono ?_
  rintro e W1 hp
  have hu1 : Up w W1 := by
    rcases hp with ⟨_, _, rfl⟩ | ⟨_, _, _, _, _, _, _, hb⟩
    · exact Chg.refl _ _
    · exact up_below hb
  have HC1 : Hid (Chg (fun i => w.heap.size ≤ i) w W1) := Lib.hid (hu1.mono (fun _ _ h => h.elim))
  clear hu1 HNW
  obtain ⟨hn1, hn2⟩ := hn
  obtain ⟨hs1, hs2⟩ := hs
  by_cases b1 : n < 1
  · rcases hp with ⟨_, rfl, hx⟩ | ⟨hf, _⟩
    · clear hx
      have HA := Lib.hid (awake_any W1)
      go_wp2_with (go_at_call 13; refine HA.out.mono ?_; rintro e w' ⟨rfl, hb⟩)
      go_ret
      exact ⟨rfl, (HC1.out.then (up_below hb) (fun _ h => h.elim)).below (Nat.le_refl _) (fun _ h => h)⟩
    · unfold FormOk at hf; omega
  by_cases b2 : 65536 < n
  · rcases hp with ⟨_, rfl, hx⟩ | ⟨hf, _⟩
    · clear hx
      have HA := Lib.hid (awake_any W1)
      go_wp2_with (go_at_call 13; refine HA.out.mono ?_; rintro e w' ⟨rfl, hb⟩)
      go_ret
      exact ⟨rfl, (HC1.out.then (up_below hb) (fun _ h => h.elim)).below (Nat.le_refl _) (fun _ h => h)⟩
    · unfold FormOk at hf; omega
  by_cases b3 : size < 16
  · rcases hp with ⟨_, rfl, hx⟩ | ⟨hf, _⟩
    · clear hx
      have HA := Lib.hid (awake_any W1)
      go_wp2_with (go_at_call 13; refine HA.out.mono ?_; rintro e w' ⟨rfl, hb⟩)
      go_ret
      exact ⟨rfl, (HC1.out.then (up_below hb) (fun _ h => h.elim)).below (Nat.le_refl _) (fun _ h => h)⟩
    · unfold FormOk at hf; omega
  by_cases b4 : 4096 < size
  · rcases hp with ⟨_, rfl, hx⟩ | ⟨hf, _⟩
    · clear hx
      have HA := Lib.hid (awake_any W1)
      go_wp2_with (go_at_call 13; refine HA.out.mono ?_; rintro e w' ⟨rfl, hb⟩)
      go_ret
      exact ⟨rfl, (HC1.out.then (up_below hb) (fun _ h => h.elim)).below (Nat.le_refl _) (fun _ h => h)⟩
    · unfold FormOk at hf; omega
  rcases hp with ⟨hf, _, _⟩ | ⟨_, p, b, sv, rfl, hd, hown, _⟩
  · exact absurd (show FormOk n size by unfold FormOk; omega) hf
  obtain ⟨N, rfl⟩ : ∃ N : Nat, n = N := ⟨n.toNat, by omega⟩
  obtain ⟨Z, rfl⟩ : ∃ Z : Nat, size = Z := ⟨size.toNat, by omega⟩
  rw [Int.toNat_natCast, Int.toNat_natCast] at hd
  have HD := Lib.hid hd
  have HOWN := Lib.hid hown
  clear hd hown
  by_cases b5 : (30 : Int) < N
  · have HA := Lib.hid (awake_any W1)
    go_wp2_with (go_at_call 13; refine HA.out.mono ?_; rintro e w' ⟨rfl, hb⟩)
    go_ret
    exact ⟨rfl, (HC1.out.then (up_below hb) (fun _ h => h.elim)).below (Nat.le_refl _) (fun _ h => h)⟩
  by_cases b6 : (100 : Int) < Z
  · have HA := Lib.hid (awake_any W1)
    go_wp2_with (go_at_call 13; refine HA.out.mono ?_; rintro e w' ⟨rfl, hb⟩)
    go_ret
    exact ⟨rfl, (HC1.out.then (up_below hb) (fun _ h => h.elim)).below (Nat.le_refl _) (fun _ h => h)⟩
  have HS := Lib.hid (small_any W1 _ os ds (HO.out.below HC1.out) 60)
  go_wp2_with fail
  refine HS.out.mono ?_
  rintro e W2 ⟨rfl, hb2⟩
  have HC2 := Lib.hid (HC1.out.then (up_below hb2) (fun _ h => h.elim))
  have HD2 := Lib.hid (HD.out.up (up_below hb2))
  clear hb2 HS HD HC1
  cases hsm : (smallB os && decide ((os.length : Int) ≤ 60)) with
  | false =>
    have HA := Lib.hid (awake_any W2)
    go_wp2_with (go_at_call 13; refine HA.out.mono ?_; rintro e w' ⟨rfl, hb⟩)
    go_ret
    exact ⟨rfl, (HC2.out.then (up_below hb) (fun _ h => h.elim)).below (Nat.le_refl _) (fun _ h => h)⟩
  | true =>
    obtain ⟨hl1, hsm'⟩ := small_of (n := 60) hsm
    have HSM := Lib.hid hsm'
    clear hsm hsm'
    go_wp2_with fail
    refine (xnew W2 N Z (by omega) (by omega)).mono ?_
    rintro e W3 hp
    obtain ⟨q, s1, s2, rfl, hr3, ho3, hb3⟩ := hp
    have HR3 := Lib.hid hr3
    have HD3 := Lib.hid (HD2.out.up (up_below hb3))
    have HC3 := Lib.hid (HC2.out.then (up_below hb3) (fun _ h => h.elim))
    have HOB : Hid (∀ j, OwnB p b q sv s1 s2 j → w.heap.size ≤ j) := Lib.hid (fun j hj => hj.elim (fun h => HOWN.out j h) (fun h => Nat.le_trans HC2.out.size (ho3 j h)))
    clear hr3 ho3 hb3 HD2 HC2 HOWN
    go_wp2_with fail
    go_loopw [61] (fun i wr => ∃ (k : Nat) (x : Dk), k ≤ os.length ∧ i = .int .i64 k ∧ DskV wr p b sv x k ∧ RefX wr q s1 s2 x ∧ W16 x k ∧ x.has.length = N ∧ Chg (fun i => w.heap.size ≤ i) w wr) (fun i _ => os.length - (intOf i).toNat)
    case atStart => exact ⟨0, freshI N Z, by omega, rfl, HD3.out, HR3.out, W16.fresh N Z (by omega) (by omega) (by omega) (by omega), freshI_num N Z, HC3.out⟩
    case round =>
      rename World => wr
      obtain ⟨k, x, hk, rfl, hd, hr, hwf, hnx, hch⟩ := hrel
      by_cases hk2 : (k : Int) < os.length
      · have ho := HO.out.below (hch)
        have ho0 := HO.out
        obtain ⟨bb, off, cc, he, _, _, hcells⟩ := ho.cells (by omega)
        injection he with e1 e2 e3
        subst e1 e3
        obtain ⟨r0, r1, r2, r3, r4⟩ := hcells k (by omega)
        have hdd := ho0.dat k (by omega)
        have hll := ho0.lost k (by omega)
        have hok := HOK.out k (by omega)
        have hsm := HSM.out k (by omega)
        obtain ⟨⟨d1, d2⟩, hde⟩ : ∃ d, ds.getD k uu = d := ⟨_, rfl⟩
        obtain ⟨o, hoe⟩ : ∃ o, os.getD k default = o := ⟨_, rfl⟩
        rw [hde] at r3 r4 hdd hll
        rw [hoe] at r0 r1 r2 hdd hll hok hsm
        dsimp only at r3 r4 hdd hll
        obtain ⟨A1, c1, rfl, x1, x2⟩ := hdd.shape
        obtain ⟨A2, c2, rfl, y1, y2⟩ := hll.shape
        obtain ⟨hsm1, hsm2⟩ := hsm
        have hu : Up wr (wr.alloc (.cells #[.int .i64 o.kind, .int .i64 o.sec, .int .i64 o.num, .slice A1 o.dat.length c1, .slice A2 o.lost.length c2] 31)) := (Chg.refl _ wr).alloc _
        have HST := Lib.hid (step_any _ p b q sv s1 s2 x k o _ _ (step_at (hd.up hu) (hr.up hu) hwf (by omega) hok hdd hll (hch.then hu (fun _ h => h.elim)) (by omega) (by omega) HOB.out))
        have HW2 := Lib.hid (hwf.step o hok)
        have HNX : Hid ((stepI x o).has.length = N) := Lib.hid ((stepI_num x o).trans hnx)
        have HCH : Hid (Chg (fun i => w.heap.size ≤ i) w (wr.alloc (.cells #[.int .i64 o.kind, .int .i64 o.sec, .int .i64 o.num, .slice A1 o.dat.length c1, .slice A2 o.lost.length c2] 31))) := Lib.hid (hch.then hu (fun _ h => h.elim))
        obtain ⟨y, hy⟩ : ∃ y, stepI x o = y := ⟨_, rfl⟩
        rw [hy] at HST HW2 HNX
        clear hy hd hr hwf hnx hch ho ho0 hcells hdd hll hok hde hoe hu
        go_wp2_with fail
        refine HST.out.mono ?_
        rintro e W5 ⟨rfl, hd5, hr5, hc5⟩
        have HD5 := Lib.hid hd5
        have HR5 := Lib.hid hr5
        have HC5 := Lib.hid (HCH.out.then hc5 (fun i hi => .inl (HOB.out i hi)))
        have HSA := Lib.hid (same_any W5 p b q sv s1 s2 y _ hd5 hr5 HW2.out (by omega))
        clear hd5 hr5 hc5 HST HCH
        go_wp2_with fail
        refine HSA.out.mono ?_
        rintro e W6 ⟨rfl, hb6⟩
        have HX6 : Hid (DskV W6 p b sv y (k + 1) ∧ RefX W6 q s1 s2 y ∧ W16 y (k + 1) ∧ y.has.length = N ∧ Chg (fun i => w.heap.size ≤ i) w W6) := Lib.hid ⟨HD5.out.up (up_below hb6), HR5.out.up (up_below hb6), HW2.out, HNX.out, HC5.out.then (up_below hb6) (fun _ h => h.elim)⟩
        clear hb6 HSA HD5 HR5 HC5
        go_wp2_with fail
        exact ⟨⟨k + 1, y, by omega, by go_num, HX6.out⟩, by simp [intOf]; omega⟩
      · obtain rfl : k = os.length := by omega
        have HCR := Lib.hid (vcrash wr p b sv x _ hd hwf.wf (.slice none 0 0) [] (.inl ⟨rfl, rfl, rfl⟩) (fun j => by unfold I64; simp) (by simp) (fun g hg h0 => by simp at h0))
        have HD4 := Lib.hid hd
        have HR4 := Lib.hid hr
        have HW4 := Lib.hid hwf
        have HNX := Lib.hid hnx
        have HC4 := Lib.hid hch
        clear hd hr hwf hnx hch
        go_wp2_with fail
        refine HCR.out.mono ?_
        rintro e w5 ⟨⟨u5, rfl⟩, hd5, hc5⟩
        have hr5 := HR4.out.keepD HD4.out hc5
        have HXR := Lib.hid (xcrash w5 q s1 s2 x _ hr5 HW4.out (.slice none 0 0) [] (.inl ⟨rfl, rfl, rfl⟩) (by simp) (fun g hg h0 => by simp at h0))
        have HD5 := Lib.hid hd5
        have HR5 := Lib.hid hr5
        have HC5 := Lib.hid (HC4.out.then hc5 (fun i hi => .inl (HOB.out i (.inl hi))))
        clear hd5 hc5 hr5 HCR HD4 HR4 HC4
        go_wp2_with fail
        refine HXR.out.mono ?_
        rintro e w6 ⟨⟨u6, rfl⟩, hr6, hc6⟩
        have HD6 := Lib.hid (HD5.out.keepR HR5.out hc6)
        have HR6 := Lib.hid hr6
        have HC6 := Lib.hid (HC5.out.then hc6 (fun i hi => .inl (HOB.out i (.inr hi))))
        have HW6 : Hid (W16 (crashI x []) os.length) := Lib.hid ⟨HW4.out.wf.crash _, by rw [(crash_form x _).1]; exact HW4.out.num, by rw [(crash_form x _).2]; exact HW4.out.size⟩
        have HN6 : Hid ((crashI x []).has.length = N) := Lib.hid ((crash_form x []).1.trans HNX.out)
        have HDN : Hid ((crashI x []).down = false) := Lib.hid rfl
        obtain ⟨y, hy⟩ : ∃ y, crashI x [] = y := ⟨_, rfl⟩
        rw [hy] at HD6 HR6 HW6 HN6 HDN
        clear hr6 hc6 HXR HD5 HR5 HC5 HW4 HNX hy
        go_wp2_with fail
        go_loopw [82] (fun i wr => ∃ (k : Nat), k ≤ N ∧ i = .int .i64 k ∧ Up w6 wr) (fun i _ => N - (intOf i).toNat)
        case atStart => exact ⟨0, by omega, rfl, Chg.refl _ _⟩
        case round =>
          rename World => wr
          obtain ⟨i, hi, rfl, hu⟩ := hrel
          by_cases hi2 : (i : Int) < N
          · have hr1 := vread wr p b sv y _ (HD6.out.up hu) HW6.out.wf (i : Int) (by unfold I64; omega)
            have hrd : readI y (i : Int) = (nowI y i, 0) := by
              unfold readI nowI
              rw [HDN.out, if_neg (by simp), HN6.out, if_neg (by omega)]
            rw [hrd] at hr1
            dsimp only at hr1
            have HR1 := Lib.hid hr1
            have HU := Lib.hid hu
            clear hr1 hu hrd
            go_wp2_with fail
            refine HR1.out.mono ?_
            rintro e wa ⟨va, rfl, hva, hba⟩
            have HUA : Hid (Up w6 wa.drew) := Lib.hid (HU.out.trans (up_below hba)).drew
            have HSL : Hid (SlB wa.drew va (nowI y i)) := Lib.hid (slb_of (own_chg hva (Chg.refl (fun _ => False) wa).drew (fun _ _ h => h)))
            obtain ⟨s0, hs0⟩ : ∃ s, strOfNums (nowI y i) = s := ⟨_, rfl⟩
            have HS0 := Lib.hid hs0
            clear hva hba HR1 HU hs0
            go_wp2_with fail
            refine MT.region_mono Up [fun v _ => v = .int .i64 0,
                fun v _ => v = .bool false,
                fun v _ => v = .bool false,
                fun v _ => v = va,
                fun v _ => v = .string s0,
                fun v _ => v = .pointer (some ⟨q, 0, none⟩),
                fun v _ => v = .int .i64 (i : Int),
                fun v _ => v = .string s0,
                fun v _ => v = .bool false,
                fun v _ => v = .bool false] (by kernel_rfl) (by kernel_rfl) (Chg.refl _) (fun _ _ _ => Chg.trans) (by simp) ?_ ?_ ?_
            · simp only [List.forall_mem_cons]
              exact ⟨fun _ _ _ _ _ h => h, fun _ _ _ _ _ h => h, fun _ _ _ _ _ h => h, fun _ _ _ _ _ h => h, fun _ _ _ _ _ h => h, fun _ _ _ _ _ h => h, fun _ _ _ _ _ h => h, fun _ _ _ _ _ h => h, fun _ _ _ _ _ h => h, fun _ _ _ _ _ h => h, by simp⟩
            · refine ⟨?_, ?_, ?_, ?_, ?_, ?_, ?_, ?_, ?_, ?_, trivial⟩
              · intro ρ w1 hw h0 hc hg hf hd
                have s13 : ρ (.tmp 13) = .int .i64 0 := h0 13 (by kernel_rfl)
                refine ⟨fun _ => ?_, fun h => by cases h⟩
                clear h0 hg hd
                exact gives_move rfl ⟨Chg.refl _ _, s13⟩
              · intro ρ w1 hw h0 hc hg hf hd
                have d0 := hd ⟨0, .data⟩ (by simp) rfl _ _ _ rfl rfl rfl
                refine ⟨fun _ => ?_, fun h => by cases h⟩
                clear h0 hg hd
                refine Gives.value (w' := w1) ?_ ⟨Chg.refl _ _, rfl⟩
                go_simp
              · intro ρ w1 hw h0 hc hg hf hd
                have d1 := hd ⟨1, .data⟩ (by simp) rfl _ _ _ rfl rfl rfl
                refine ⟨fun _ => ?_, fun h => by cases h⟩
                clear h0 hg hd
                exact gives_move rfl ⟨Chg.refl _ _, d1⟩
              · intro ρ w1 hw h0 hc hg hf hd
                have d2 := hd ⟨2, .guard⟩ (by simp) rfl _ _ _ rfl rfl rfl
                have s12 : ρ (.tmp 12) = va := h0 12 (by kernel_rfl)
                refine ⟨fun _ => ?_, fun h => by rw [wantedBy_true rfl rfl rfl d2] at h; cases h⟩
                clear d2
                clear h0 hg hd
                exact gives_move rfl ⟨Chg.refl _ _, s12⟩
              · intro ρ w1 hw h0 hc hg hf hd
                have d3 := hd ⟨3, .data⟩ (by simp) rfl _ _ _ rfl rfl rfl
                have d2 := hd ⟨2, .guard⟩ (by simp) rfl _ _ _ rfl rfl rfl
                refine ⟨fun _ => ?_, fun h => by rw [wantedBy_true rfl rfl rfl d2] at h; cases h⟩
                clear d2
                clear h0 hg hd
                rw [← HS0.out]
                exact gives_string rfl (by rw [d3]; exact Src.chg HSL.out hw (fun _ _ _ h => h) (by decide)) ⟨Chg.refl _ _, rfl⟩
              · intro ρ w1 hw h0 hc hg hf hd
                have d2 := hd ⟨2, .guard⟩ (by simp) rfl _ _ _ rfl rfl rfl
                have s8 : ρ (.tmp 8) = .pointer (some ⟨q, 0, none⟩) := h0 8 (by kernel_rfl)
                refine ⟨fun _ => ?_, fun h => by rw [wantedBy_true rfl rfl rfl d2] at h; cases h⟩
                clear d2
                clear h0 hg hd
                exact gives_move rfl ⟨Chg.refl _ _, s8⟩
              · intro ρ w1 hw h0 hc hg hf hd
                have d2 := hd ⟨2, .guard⟩ (by simp) rfl _ _ _ rfl rfl rfl
                have s11 : ρ (.tmp 11) = .int .i64 (i : Int) := h0 11 (by kernel_rfl)
                refine ⟨fun _ => ?_, fun h => by rw [wantedBy_true rfl rfl rfl d2] at h; cases h⟩
                clear d2
                clear h0 hg hd
                exact gives_move rfl ⟨Chg.refl _ _, s11⟩
              · intro ρ w1 hw h0 hc hg hf hd
                have d5 := hd ⟨5, .data⟩ (by simp) rfl _ _ _ rfl rfl rfl
                have d6 := hd ⟨6, .data⟩ (by simp) rfl _ _ _ rfl rfl rfl
                have d2 := hd ⟨2, .chain⟩ (by simp) rfl _ _ _ rfl rfl rfl
                refine ⟨fun _ => ?_, fun h => by rw [wantedBy_true rfl rfl rfl d2] at h; cases h⟩
                clear d2
                clear h0 hg hd
                rw [← HS0.out]
                refine gives_call rfl hf Try.func44 rfl (by kernel_rfl) (args := #[.pointer (some ⟨q, 0, none⟩), .int .i64 (i : Int)]) (by simp [d5, d6]) ((xnow w1 q _ _ y _ ((HR6.out.up HUA.out).up hw) HW6.out i (by rw [HN6.out]; omega)).mono ?_)
                rintro e w2 ⟨rfl, rfl⟩
                exact ⟨_, rfl, Chg.refl _ _, rfl⟩
              · intro ρ w1 hw h0 hc hg hf hd
                have d4 := hd ⟨4, .data⟩ (by simp) rfl _ _ _ rfl rfl rfl
                have d7 := hd ⟨7, .data⟩ (by simp) rfl _ _ _ rfl rfl rfl
                have d2 := hd ⟨2, .guard⟩ (by simp) rfl _ _ _ rfl rfl rfl
                refine ⟨fun _ => ?_, fun h => by rw [wantedBy_true rfl rfl rfl d2] at h; cases h⟩
                clear d2
                clear h0 hg hd
                clear hf hc
                refine Gives.value (w' := w1) ?_ ⟨Chg.refl _ _, rfl⟩
                go_simp
              · intro ρ w1 hw h0 hc hg hf hd
                have d2 := hd ⟨2, .data⟩ (by simp) rfl _ _ _ rfl rfl rfl
                have d8 := hd ⟨8, .data⟩ (by simp) rfl _ _ _ rfl rfl rfl
                refine ⟨fun _ => ?_, fun h => by cases h⟩
                clear h0 hg hd
                refine Gives.value (w' := w1) ?_ ⟨Chg.refl _ _, rfl⟩
                go_simp
            · intro vs w7 hw hr
              have h9 := hr 9 _ rfl
              clear hr
              dsimp only [putsL, restL]
              simp only [Act.put, List.setIfInBounds_toArray, List.set_cons_zero, List.set_cons_succ]
              simp only [Nat.zero_add, Nat.reduceAdd]
              rw [h9]
              have HU7 := Lib.hid (HUA.out.trans hw)
              clear hw h9
              go_wp2_with fail
              exact ⟨⟨i + 1, by omega, by go_num, HU7.out⟩, by simp [intOf]; omega⟩
          · have HCE := Lib.hid (HC6.out.then hu (fun _ h => h.elim))
            clear hu
            have HA := Lib.hid (awake_any wr)
            go_wp2_with (go_at_call 13; refine HA.out.mono ?_; rintro e w' ⟨rfl, hb⟩)
            go_ret
            exact ⟨rfl, (HCE.out.then (up_below hb) (fun _ h => h.elim)).below (Nat.le_refl _) (fun _ h => h)⟩
end Go.Proofs.Ytkndnlhlglgmfaa
