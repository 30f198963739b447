/-
  The law 'NetCopies', walked.
-/
import Derived.Test.YtofmblkmfbioiaaN25
namespace Go.Proofs.Ytofmblkmfbioiaa
open Go.RowKit
set_option maxRecDepth 100000 in
set_option maxHeartbeats 4000000 in
theorem netCopies_any (w : World) (v1 v2 : Value) (os1 os2 : List OpI) (ds1 ds2 : List Value) (h1 : OpsAt w v1 os1 ds1) (h2 : OpsAt w v2 os2 ds2) : Calls Try.prog 4 #[v1, v2] w (TruePost w) := by
  obtain ⟨A1, c1, rfl, hl1, hm1⟩ := h1.shape
  obtain ⟨A2, c2, rfl, hl2, hm2⟩ := h2.shape
  have HO1 := Lib.hid h1
  have HO2 := Lib.hid h2
  clear h1 h2
  have hn0 := net_new w
  obtain ⟨W1, hW1⟩ : ∃ W1, W1 = w.alloc (.cells #[.slice none 0 0, .int .i64 0] 57) := ⟨_, rfl⟩
  rw [← hW1] at hn0
  have hu1 : Up w W1 := by rw [hW1]; exact (Chg.refl _ w).alloc _
  obtain ⟨p, hp⟩ : ∃ p, p = w.heap.size := ⟨_, rfl⟩
  rw [← hp] at hn0
  have HN0 := Lib.hid hn0
  have HU1 := Lib.hid hu1
  have HP := Lib.hid hp
  have HW1 := Lib.hid hW1
  have HNEW := Lib.hid (new_any w)
  clear hn0 hu1 hW1 hp
  go_enter Try.func4, Try.ntmps4
  by_cases hbad : 30 < os1.length ∨ 30 < os2.length
  · by_cases hb1 : (30 : Int) < os1.length
    · go_wp2_with fail
      refine HNEW.out.mono ?_
      rintro e W0 ⟨rfl, rfl⟩
      rw [← HW1.out, ← HP.out]
      have HAW := Lib.hid (awake_any W1)
      go_wp2_with fail
      refine HAW.out.mono ?_
      rintro e W2 ⟨rfl, hb2⟩
      have HB2 := Lib.hid hb2
      clear hb2
      go_wp2_with fail
      go_ret
      exact ⟨rfl, (HU1.out.below_none (fun _ _ h => h)).trans (HB2.out.mono HU1.out.size)⟩
    · have hb2 : (30 : Int) < os2.length := by omega
      go_wp2_with fail
      refine HNEW.out.mono ?_
      rintro e W0 ⟨rfl, rfl⟩
      rw [← HW1.out, ← HP.out]
      have HAW := Lib.hid (awake_any W1)
      go_wp2_with fail
      refine HAW.out.mono ?_
      rintro e W2 ⟨rfl, hb2⟩
      have HB2 := Lib.hid hb2
      clear hb2
      go_wp2_with fail
      go_ret
      exact ⟨rfl, (HU1.out.below_none (fun _ _ h => h)).trans (HB2.out.mono HU1.out.size)⟩
  · have hs1 : ¬ (30 : Int) < os1.length := by omega
    have hs2 : ¬ (30 : Int) < os2.length := by omega
    obtain ⟨B1, d1, V1, B2, d2, W2, hr1, hr2, ho, hu2⟩ := OpsAt.app (HO1.out.up' HU1.out) (HO2.out.up' HU1.out) (by omega) (by omega)
    obtain ⟨N, hN⟩ : ∃ N, os1.length + os2.length = N := ⟨_, rfl⟩
    obtain ⟨OS, hOS⟩ : ∃ OS, os1 ++ os2 = OS := ⟨_, rfl⟩
    obtain ⟨DS, hDS⟩ : ∃ DS, ds1 ++ ds2 = DS := ⟨_, rfl⟩
    rw [hN] at hr2
    rw [hN, hOS, hDS] at ho
    have hNl : OS.length = N := by rw [← hOS, List.length_append, hN]
    have HNL := Lib.hid hNl
    have hNb : N ≤ 60 := by omega
    have HNN := Lib.hid hN
    have HOSE := Lib.hid hOS
    clear hNl hN hOS hDS
    have HR1 := Lib.hid hr1
    have HR2 := Lib.hid hr2
    have HO := Lib.hid ho
    have HU2 := Lib.hid hu2
    clear hbad hr1 hr2 ho hu2
    go_wp2_with fail
    refine HNEW.out.mono ?_
    rintro e W0 ⟨rfl, rfl⟩
    rw [← HW1.out, ← HP.out]
    go_wp2_with (at_builtin; first | refine wpList_run_append rfl (.tmp 36) (.tmp 37) 33 rfl _ _ rfl rfl 33 rfl HR1.out ?_ | refine wpList_run_append rfl (.tmp 38) (.tmp 39) 33 rfl _ _ rfl rfl 33 rfl HR2.out ?_)
    go_loopw [42] (fun i wr => ∃ k : Nat, k ≤ N ∧ i = .int .i64 k ∧ Up W2 wr ∧ ∀ j, j < k → (OS.getD j default).dat.length ≤ 100) (fun i _ => N - (intOf i).toNat)
    case atStart => exact ⟨0, by omega, rfl, Chg.refl _ _, fun j hj => by omega⟩
    case round =>
      rename World => wr
      obtain ⟨k, hk, rfl, hu, hall⟩ := hrel
      by_cases hk2 : (k : Int) < N
      · obtain ⟨b, off, rfl, a0, a1, a2, a3, a4, hsl, _⟩ := HO.out.row (hu.mono (fun _ _ h => h.elim)) k (by rw [HNL.out]; omega)
        obtain ⟨o, ho⟩ : ∃ o, OS.getD k default = o := ⟨_, rfl⟩
        rw [ho] at a0 a1 a2 a3 hsl
        obtain ⟨kd, pa, fr, to, xs⟩ := o
        dsimp only at a0 a1 a2 a3 hsl
        obtain ⟨Ad, cd, hd, _⟩ := hsl.shape
        rw [hd] at a4
        have HU := Lib.hid hu
        have HALL := Lib.hid hall
        have HOE := Lib.hid ho
        clear hu hall hsl hd ho
        by_cases hx : (100 : Int) < xs.length
        · have HAW := fun W => Lib.hid (awake_any W)
          go_wp2_with fail
          refine (HAW _).out.mono ?_
          rintro e W4 ⟨rfl, hb4⟩
          have HB4 := Lib.hid hb4
          clear hb4
          go_wp2_with fail
          go_ret
          exact ⟨rfl, ((((HU1.out.trans HU2.out).trans HU.out).alloc _).below_none (fun _ _ h => h)).trans (HB4.out.mono ((((HU1.out.trans HU2.out).trans HU.out).alloc _).size))⟩
        · go_wp2_with fail
          exact ⟨⟨k + 1, by omega, by go_num, HU.out.alloc _, fun j hj => by
            by_cases hjk : j = k
            · subst hjk; rw [HOE.out]; show xs.length ≤ 100; omega
            · exact HALL.out j (by omega)⟩, by simp [intOf]; omega⟩
      · obtain rfl : k = N := by omega
        have hd1 : ∀ j, j < os1.length → (os1.getD j default).dat.length ≤ 1000 := fun j hj => by
          have := hall j (by rw [← HNN.out]; omega)
          rw [← HOSE.out, show (os1 ++ os2).getD j default = os1.getD j default by simp [List.getD_eq_getElem?_getD, List.getElem?_append_left hj]] at this
          omega
        have hd2 : ∀ j, j < os2.length → (os2.getD j default).dat.length ≤ 1000 := fun j hj => by
          have := hall (os1.length + j) (by rw [← HNN.out]; omega)
          rw [← HOSE.out, show (os1 ++ os2).getD (os1.length + j) default = os2.getD j default by simp [List.getD_eq_getElem?_getD, List.getElem?_append_right]] at this
          omega
        have hu3 := (HU1.out.trans HU2.out).trans hu
        have HD1 := Lib.hid hd1
        have HD2 := Lib.hid hd2
        have HU3 := Lib.hid hu3
        have HN3 := Lib.hid (HN0.out.up (HU2.out.trans hu))
        clear hu hall hd1 hd2 hu3 HO HNL HNN HOSE hk2 hk
        rename World => W3
        go_wp2_with fail
        have HST0 := Lib.hid (PlayAt.start HN3.out (show XAt W3 0 (.slice none 0 0) [] from World.ownsRow_nil _ _ _ _))
        have HCB := Lib.hid (show Chg (fun i => w.heap.size ≤ i) w W3 from HU3.out.mono (fun _ _ h => h.elim))
        have HPB := Lib.hid (show w.heap.size ≤ p by have := HP.out; omega)
        have HNB := Lib.hid (show ∀ g, (Value.slice none 0 0).ownBlock = some g → w.heap.size ≤ g from fun g hg => by simp [Value.ownBlock] at hg)
        have HLL := Lib.hid (show ([] : List Let).length ≤ 200 by decide)
        have HFW := Lib.hid Few.nil
        have HSS := Lib.hid (show (0 : Int) ≤ 0 ∧ (0 : Int) ≤ 200 by omega)
        go_loopw [6, 55] (fun xv i wr => ∃ (k : Nat) (lv : Value), k ≤ os1.length ∧ i = .int .i64 k ∧ PlayAt W3 p (.slice none 0 0) (.slice none 0 0) (playI [] (os1.take k)) (sentI' 0 (os1.take k)) lv xv wr) (fun _ i _ => os1.length - (intOf i).toNat)
        case atStart => exact ⟨0, _, by omega, rfl, by rw [List.take_zero]; exact HST0.out⟩
        case round =>
          rename World => wr
          rename Value => xv
          obtain ⟨k, lv, hk, rfl, hpl⟩ := hrel
          by_cases hk2 : (k : Int) < os1.length
          · obtain ⟨hch, hlb, hxb⟩ := hpl.base HCB.out (Nat.le_refl _) HPB.out HNB.out HNB.out
            obtain ⟨b, off, rfl, a0, a1, a2, a3, a4, hsl, hdl⟩ := HO1.out.row hch k (by omega)
            obtain ⟨o, ho⟩ : ∃ o, os1.getD k default = o := ⟨_, rfl⟩
            rw [ho] at a0 a1 a2 a3 hsl hdl
            obtain ⟨Ad, cd, hd, _⟩ := hsl.shape
            rw [hd] at a4 hsl hdl
            obtain ⟨wq, hwq⟩ : ∃ W, W = wr.alloc (.cells #[.int .i64 o.kind, .int .i64 o.at_, .int .i64 o.frm, .int .i64 o.to_, .slice Ad o.dat.length cd] 36) := ⟨_, rfl⟩
            have huq : Up wr wq := by rw [hwq]; exact (Chg.refl _ wr).alloc _
            have hst := (hpl.up huq).next HLL.out HFW.out HSS.out.1 HSS.out.2 (by omega) HD1.out (by omega) o ho _ (Src.chg hsl huq (fun _ _ _ h => h) (by decide))
              (fun g hg h0 => ⟨fun e => by have h1 := hdl g hg h0; have h2 := HPB.out; omega, fun e => by have h1 := hdl g hg h0; have h2 := hlb g e; omega⟩)
            have HST := Lib.hid hst
            have HWQ := Lib.hid hwq
            clear hpl hch hlb hxb hsl hdl hd ho hwq huq hst
            go_wp2_with fail
            rw [← HWQ.out]
            refine HST.out.mono ?_
            rintro e W9 ⟨B9, c9, lv9, rfl, hpl9⟩
            have HPL9 := Lib.hid hpl9
            clear hpl9 a0 a1 a2 a3 a4
            go_wp2_with fail
            exact ⟨⟨k + 1, lv9, by omega, by go_num, HPL9.out⟩, by simp [intOf]; omega⟩
          · obtain rfl : k = os1.length := by omega
            rw [List.take_length] at hpl
            obtain ⟨hch, hlb, hxb⟩ := hpl.base HCB.out (Nat.le_refl _) HPB.out HNB.out HNB.out
            obtain ⟨ds, hnet, hX, _, _, _⟩ := hpl
            obtain ⟨q1, q2, q3, q4⟩ := play_ok HLL.out HFW.out HSS.out.1 HSS.out.2 (show os1.length ≤ 200 by omega) HD1.out os1.length
            have q5 := playI_len [] os1
            have q6 := sentI_le 0 os1
            rw [List.take_length] at q1 q2 q3 q4
            rw [List.length_nil] at q5
            obtain ⟨L1, hL1⟩ : ∃ L, playI [] os1 = L := ⟨_, rfl⟩
            obtain ⟨S1, hS1⟩ : ∃ s, sentI' 0 os1 = s := ⟨_, rfl⟩
            rw [hL1] at hnet hX q1 q2 q5
            rw [hS1] at hnet q3 q4 q6
            obtain ⟨Bx, cx, rfl⟩ := own_shape hX
            have HCOPY := Lib.hid (copy_any wr p lv ds L1 S1 hnet (by omega) (fun j hj => q2.at_ j hj))
            have HLL1 := Lib.hid (show L1.length ≤ 200 by omega)
            have HLK1 := Lib.hid (show L1.length ≤ 1024 by omega)
            have HFW1 := Lib.hid q2
            have HSS1 := Lib.hid (show (0 : Int) ≤ S1 ∧ S1 ≤ 200 by omega)
            have HNET := Lib.hid hnet
            have HX := Lib.hid hX
            have HCH := Lib.hid hch
            have HLB := Lib.hid hlb
            have HXB := Lib.hid hxb
            clear hnet hX hch hlb hxb q1 q2 q3 q4 q5 q6 hL1 hS1 hk hk2 HST0 HN3 HLL HFW HSS
            go_wp2_with fail
            refine HCOPY.out.mono ?_
            rintro e W4 ⟨q, lvc, dsc, rfl, hq, hnc, hvc, hb4⟩
            have hu4 := up_below hb4
            have HU4 := Lib.hid hu4
            have HQ := Lib.hid hq
            have HNC := Lib.hid hnc
            have HVC := Lib.hid hvc
            have HS4 := Lib.hid (sent_any W4 q lvc dsc L1 S1 hnc)
            have HS4' := Lib.hid (sent_any W4 p lv ds L1 S1 (HNET.out.up hu4))
            obtain ⟨By, cy, W5, hrun, hy5, hu5⟩ := app_emptyR W4 0 _ L1 (own_chg HX.out hu4 (fun _ _ h => h)) (by have := HLK1.out; omega)
            have HRUN := Lib.hid hrun
            have HY5 := Lib.hid hy5
            have HU5 := Lib.hid hu5
            clear hu4 hq hnc hvc hb4 hrun hy5 hu5
            go_wp2_with fail
            refine HS4.out.mono ?_
            rintro e W4' ⟨rfl, rfl⟩
            go_wp2_with fail
            refine HS4'.out.mono ?_
            rintro e W4' ⟨rfl, rfl⟩
            rename World => W4
            go_wp2_with (at_builtin; refine wpList_run_append rfl (.tmp 78) (.tmp 79) 34 rfl _ _ rfl rfl 34 rfl HRUN.out ?_)
            have HST5 := Lib.hid (PlayAt.start (HNET.out.up (HU4.out.trans HU5.out)) (own_base HY5.out (Nat.zero_le _)))
            have HCB5 := Lib.hid (show Chg (fun i => w.heap.size ≤ i) w W5 from HCH.out.then (HU4.out.trans HU5.out) (fun i hi => hi.elim))
            have HYB := Lib.hid (show ∀ g, (Value.slice By L1.length cy).ownBlock = some g → W4.heap.size ≤ g from fun g hg => own_ge HY5.out g hg)
            have HYB5 := Lib.hid (show ∀ g, (Value.slice By L1.length cy).ownBlock = some g → w.heap.size ≤ g from fun g hg => Nat.le_trans (Nat.le_trans HCH.out.size HU4.out.size) (HYB.out g hg))
            go_loopw [12, 83] (fun xv i wr => ∃ (k : Nat) (lvm : Value), k ≤ os2.length ∧ i = .int .i64 k ∧ PlayAt W5 p lv (.slice By L1.length cy) (playI L1 (os2.take k)) (sentI' S1 (os2.take k)) lvm xv wr) (fun _ i _ => os2.length - (intOf i).toNat)
            case atStart => exact ⟨0, _, by omega, rfl, by rw [List.take_zero]; exact HST5.out⟩
            case round =>
              rename World => wm
              rename Value => xv
              obtain ⟨k, lvm, hk, rfl, hpl⟩ := hrel
              by_cases hk2 : (k : Int) < os2.length
              · obtain ⟨hch, hlb, hxb⟩ := hpl.base HCB5.out (Nat.le_refl _) HPB.out HLB.out HYB5.out
                obtain ⟨b, off, rfl, a0, a1, a2, a3, a4, hsl, hdl⟩ := HO2.out.row hch k (by omega)
                obtain ⟨o, ho⟩ : ∃ o, os2.getD k default = o := ⟨_, rfl⟩
                rw [ho] at a0 a1 a2 a3 hsl hdl
                obtain ⟨Ad, cd, hd, _⟩ := hsl.shape
                rw [hd] at a4 hsl hdl
                obtain ⟨wq, hwq⟩ : ∃ W, W = wm.alloc (.cells #[.int .i64 o.kind, .int .i64 o.at_, .int .i64 o.frm, .int .i64 o.to_, .slice Ad o.dat.length cd] 36) := ⟨_, rfl⟩
                have huq : Up wm wq := by rw [hwq]; exact (Chg.refl _ wm).alloc _
                have hst := (hpl.up huq).next HLL1.out HFW1.out HSS1.out.1 HSS1.out.2 (by omega) HD2.out (by omega) o ho _ (Src.chg hsl huq (fun _ _ _ h => h) (by decide))
                  (fun g hg h0 => ⟨fun e => by have h1 := hdl g hg h0; have h2 := HPB.out; omega, fun e => by have h1 := hdl g hg h0; have h2 := hlb g e; omega⟩)
                have HST := Lib.hid hst
                have HWQ := Lib.hid hwq
                clear hpl hch hlb hxb hsl hdl hd ho hwq huq hst
                go_wp2_with fail
                rw [← HWQ.out]
                refine HST.out.mono ?_
                rintro e W9 ⟨B9, c9, lv9, rfl, hpl9⟩
                have HPL9 := Lib.hid hpl9
                clear hpl9 a0 a1 a2 a3 a4
                go_wp2_with fail
                exact ⟨⟨k + 1, lv9, by omega, by go_num, HPL9.out⟩, by simp [intOf]; omega⟩
              · obtain rfl : k = os2.length := by omega
                rw [List.take_length] at hpl
                have hnc5 := HNC.out.up HU5.out
                have hnp5 := HNET.out.up (HU4.out.trans HU5.out)
                have hx5 : XAt W5 0 (.slice Bx L1.length cx) L1 := own_chg HX.out (HU4.out.trans HU5.out) (fun _ _ h => h)
                have hpn : p < wr.heap.size := (Array.getElem?_eq_some_iff.1 HNET.out.obj).1
                have hqn : q < W5.heap.size := (Array.getElem?_eq_some_iff.1 hnc5.obj).1
                have hlvn : ∀ g, lv.ownBlock = some g → g < wr.heap.size := fun g hg => own_lt HNET.out.row g hg
                have hxn : ∀ g, (Value.slice Bx L1.length cx).ownBlock = some g → g < wr.heap.size := fun g hg => own_lt HX.out g hg
                have hvc5 : ∀ g, lvc.ownBlock = some g → g < W5.heap.size := fun g hg => own_lt hnc5.row g hg
                have hz4 := HU4.out.size
                have hqv := HQ.out
                have hyo := own_base HY5.out (Nat.zero_le _)
                have hncm := hpl.net hnp5 hyo hnc5 (by omega) (fun g hg hg2 => by have h1 := HVC.out g hg; have h2 := hlvn g hg2; omega)
                have hxm := hpl.ref hnp5 hx5 (fun g hg hg2 => by have h1 := hxn g hg; have h2 := HYB.out g hg2; omega)
                obtain ⟨hchm, _, _⟩ := hpl.base HCB5.out (Nat.le_refl _) HPB.out HLB.out HYB5.out
                obtain ⟨dm, hnm, hym, _, hlm, hymb⟩ := hpl
                obtain ⟨q1, q2, q3, q4⟩ := play_ok HLL1.out HFW1.out HSS1.out.1 HSS1.out.2 (show os2.length ≤ 200 by omega) HD2.out os2.length
                rw [List.take_length] at q1 q2 q3 q4
                obtain ⟨L2, hL2⟩ : ∃ L, playI L1 os2 = L := ⟨_, rfl⟩
                obtain ⟨S2, hS2⟩ : ∃ s, sentI' S1 os2 = s := ⟨_, rfl⟩
                rw [hL2] at hnm hym q1 q2
                rw [hS2] at hnm
                obtain ⟨Bm, cm, rfl⟩ := own_shape hym
                have HSAME1 := Lib.hid (same_any wm p lvm dm L2 S2 hnm (by omega) (fun j hj => q2.at_ j hj) 0 _ hym)
                have HNCM := Lib.hid hncm
                have HXM := Lib.hid hxm
                have HNM := Lib.hid hnm
                have HYM := Lib.hid hym
                have HFW2 := Lib.hid q2
                have HL2 := Lib.hid hL2
                have HS2 := Lib.hid hS2
                have HLK2 := Lib.hid q1
                have HCHM := Lib.hid hchm
                have HQP := Lib.hid (show q ≠ p by omega)
                have HSEPL := Lib.hid (show ∀ g, lvm.ownBlock = some g → lvc.ownBlock ≠ some g from fun g hg hg2 => by
                  have h1 := HVC.out g hg2
                  have h2 := hvc5 g hg2
                  rcases hlm g hg with h3 | h3
                  · have h4 := hlvn g h3; omega
                  · omega)
                have HSEPX := Lib.hid (show ∀ g, (Value.slice Bm L2.length cm).ownBlock = some g → (Value.slice Bx L1.length cx).ownBlock ≠ some g from fun g hg hg2 => by
                  have h1 := hxn g hg2
                  have hz5 := HU5.out.size
                  rcases hymb g hg with h3 | h3
                  · have h4 := HYB.out g h3; omega
                  · omega)
                have HQB := Lib.hid (show w.heap.size ≤ q by have := HCH.out.size; omega)
                have HVCB := Lib.hid (show ∀ g, lvc.ownBlock = some g → w.heap.size ≤ g from fun g hg => by have := HVC.out g hg; have := HCH.out.size; omega)
                clear hnc5 hnp5 hx5 hpn hqn hlvn hxn hvc5 hz4 hqv hyo hncm hxm hchm hnm hym hlm hymb q1 q2 q3 q4 hL2 hS2 hk hk2 HST5 HCB5 HYB HYB5
                go_wp2_with fail
                refine HSAME1.out.mono ?_
                rintro e W6 ⟨rfl, hb6⟩
                have hu6 := up_below hb6
                have HSAME2 := Lib.hid (same_any W6 q lvc dsc L1 S1 (HNCM.out.up hu6) HLK1.out (fun j hj => HFW1.out.at_ j hj) 0 _ (own_chg HXM.out hu6 (fun _ _ h => h)))
                have HU6 := Lib.hid hu6
                clear hb6 hu6
                go_wp2_with fail
                refine HSAME2.out.mono ?_
                rintro e W7 ⟨rfl, hb7⟩
                have hu7 := HU6.out.trans (up_below hb7)
                have HU7 := Lib.hid hu7
                have HN7 := Lib.hid (HNCM.out.up hu7)
                have HX7 := Lib.hid (show XAt W7 0 (.slice Bx L1.length cx) L1 from own_chg HXM.out hu7 (fun _ _ h => h))
                have HST7 := Lib.hid (PlayAt.start HN7.out HX7.out)
                have HCB7 := Lib.hid (show Chg (fun i => w.heap.size ≤ i) w W7 from HCHM.out.then hu7 (fun i hi => hi.elim))
                clear hb7 hu7
                go_wp2_with fail
                go_loopw [6, 109] (fun xv i wr => ∃ (k : Nat) (lvq : Value), k ≤ os2.length ∧ i = .int .i64 k ∧ PlayAt W7 q lvc (.slice Bx L1.length cx) (playI L1 (os2.take k)) (sentI' S1 (os2.take k)) lvq xv wr) (fun _ i _ => os2.length - (intOf i).toNat)
                case atStart => exact ⟨0, _, by omega, rfl, by rw [List.take_zero]; exact HST7.out⟩
                case round =>
                  rename World => wq2
                  rename Value => xv
                  obtain ⟨k, lvq, hk, rfl, hpl⟩ := hrel
                  by_cases hk2 : (k : Int) < os2.length
                  · obtain ⟨hch, hlb, hxb⟩ := hpl.base HCB7.out (Nat.le_refl _) HQB.out HVCB.out HXB.out
                    obtain ⟨b, off, rfl, a0, a1, a2, a3, a4, hsl, hdl⟩ := HO2.out.row hch k (by omega)
                    obtain ⟨o, ho⟩ : ∃ o, os2.getD k default = o := ⟨_, rfl⟩
                    rw [ho] at a0 a1 a2 a3 hsl hdl
                    obtain ⟨Ad, cd, hd, _⟩ := hsl.shape
                    rw [hd] at a4 hsl hdl
                    obtain ⟨wq, hwq⟩ : ∃ W, W = wq2.alloc (.cells #[.int .i64 o.kind, .int .i64 o.at_, .int .i64 o.frm, .int .i64 o.to_, .slice Ad o.dat.length cd] 36) := ⟨_, rfl⟩
                    have huq : Up wq2 wq := by rw [hwq]; exact (Chg.refl _ wq2).alloc _
                    have hst := (hpl.up huq).next HLL1.out HFW1.out HSS1.out.1 HSS1.out.2 (by omega) HD2.out (by omega) o ho _ (Src.chg hsl huq (fun _ _ _ h => h) (by decide))
                      (fun g hg h0 => ⟨fun e => by have h1 := hdl g hg h0; have h2 := HQB.out; omega, fun e => by have h1 := hdl g hg h0; have h2 := hlb g e; omega⟩)
                    have HST := Lib.hid hst
                    have HWQ := Lib.hid hwq
                    clear hpl hch hlb hxb hsl hdl hd ho hwq huq hst
                    go_wp2_with fail
                    rw [← HWQ.out]
                    refine HST.out.mono ?_
                    rintro e W9 ⟨B9, c9, lv9, rfl, hpl9⟩
                    have HPL9 := Lib.hid hpl9
                    clear hpl9 a0 a1 a2 a3 a4
                    go_wp2_with fail
                    exact ⟨⟨k + 1, lv9, by omega, by go_num, HPL9.out⟩, by simp [intOf]; omega⟩
                  · obtain rfl : k = os2.length := by omega
                    rw [List.take_length] at hpl
                    have hnp := hpl.net HN7.out HX7.out (HNM.out.up HU7.out) HQP.out.symm HSEPL.out
                    have hy := hpl.ref HN7.out (own_chg HYM.out HU7.out (fun _ _ h => h)) HSEPX.out
                    obtain ⟨hchq, _, _⟩ := hpl.base HCB7.out (Nat.le_refl _) HQB.out HVCB.out HXB.out
                    obtain ⟨dq, hnq, _, _, _, _⟩ := hpl
                    rw [HL2.out, HS2.out] at hnq
                    have HSAME3 := Lib.hid (same_any wq2 q lvq dq L2 S2 hnq (by have := HLK2.out; omega) (fun j hj => HFW2.out.at_ j hj) 0 _ hy)
                    have HNQ := Lib.hid hnq
                    have HNP := Lib.hid hnp
                    have HCHQ := Lib.hid hchq
                    clear hnp hy hchq hnq
                    go_wp2_with fail
                    refine HSAME3.out.mono ?_
                    rintro e W8 ⟨rfl, hb8⟩
                    have hu8 := up_below hb8
                    have HS8 := Lib.hid (sent_any W8 q lvq dq L2 S2 (HNQ.out.up hu8))
                    have HS8' := Lib.hid (sent_any W8 p lvm dm L2 S2 (HNP.out.up hu8))
                    have HU8 := Lib.hid hu8
                    clear hb8 hu8
                    go_wp2_with fail
                    refine HS8.out.mono ?_
                    rintro e W8' ⟨rfl, rfl⟩
                    go_wp2_with fail
                    refine HS8'.out.mono ?_
                    rintro e W8' ⟨rfl, rfl⟩
                    rename World => W8
                    have HAW := Lib.hid (awake_any W8)
                    go_wp2_with fail
                    refine HAW.out.mono ?_
                    rintro e W10 ⟨rfl, hb10⟩
                    have HB10 := Lib.hid hb10
                    clear hb10
                    go_wp2_with fail
                    go_ret
                    have hfin := HCHQ.out.then HU8.out (fun i hi => hi.elim)
                    exact ⟨rfl, (hfin.below (Nat.le_refl _) (fun i hi => hi)).trans (HB10.out.mono hfin.size)⟩
end Go.Proofs.Ytofmblkmfbioiaa
