/-
  One call of a net, beside a list that need not be its own.
-/
import Derived.Test.YtofmblkmfbioiaaN25
namespace Go.Proofs.Ytofmblkmfbioiaa
open Go.RowKit
/-- An append leaves the old slice its row. -/
theorem push_keep (w : World) (base : Nat) (hbase : base ≤ w.heap.size) (v : Value) (ls : List Let) (hown : XAt w base v ls) (x : Let) (g : Nat) (hg : w.heap[g]? = some (.cells #[.int .i64 x.1, .int .i64 x.2.1, .string (strOfNums x.2.2)] 49 (0, 0))) (hn : ls.length ≤ 100000) :
    ∃ B c2 w', (Builtin.append_ #[34, 34] 34 #[v, .slice (some ⟨g, 0, none⟩) 1 1]).run Try.prog w = .ok (.slice B (ls.length + 1) c2) w' ∧ XAt w' base v ls ∧ Chg (fun k => v.ownBlock = some k) w w' := by
  obtain ⟨B, c2, w', hrun, hx, hc, hb⟩ := push_ref w base hbase v ls hown x g hg hn
  refine ⟨B, c2, w', hrun, ?_, hc⟩
  obtain ⟨i, hi, hzz⟩ := Option.map_eq_some_iff.1 info49z
  simp only [Prod.mk.injEq] at hzz
  obtain ⟨hz0, hz1, hz2⟩ := hzz
  have hnews : ∀ j u, (refC x)[j]? = some u → w.cell? ((⟨g, 0, none⟩ : Addr).add j) = some u := fun j u hu => by
    rw [addr_add, cell_of_row _ _ _ _ _ _ hg, Nat.zero_add]
    simpa [refC] using hu
  have hone : ∀ u ∈ refC x, u.oneCell' = true := by intro u hu; simp [refC] at hu; rcases hu with rfl | rfl | rfl <;> rfl
  have hX := hown
  rcases hown.2 with ⟨rfl, h0⟩ | ⟨gx, cap, cur, rfl, hbg, hgx, h1, h2, h3, h4⟩
  · have e : ls = [] := List.eq_nil_of_length_eq_zero h0
    subst e
    exact World.ownsRow_nil _ _ _ _
  · by_cases hroom : ls.length + 1 ≤ cap
    · obtain ⟨w2, hr2, ho2, hg2⟩ := run_append_fits (P := Try.prog) w base 34 34 49 i 3 Try.underlying34 hi hz1 gx ls.length cap _ hX ⟨g, 0, none⟩ 1 1 (refC x) rfl hnews hone hroom
      rw [hrun] at hr2
      injection hr2 with _ hw
      subst hw
      rcases ho2.2 with ⟨h0, _⟩ | ⟨g', cap', cur', he, _, hgg, k1, k2, k3, k4⟩
      · cases h0
      · injection he with e1 _ e3
        injection e1 with e1
        injection e1 with e1
        subst e1 e3
        refine ⟨hX.1, .inr ⟨gx, cap, cur', rfl, hbg, hgg, h1, h2, k3, ?_⟩⟩
        have := congrArg (List.take (ls.length * 3)) k4
        rw [List.take_take, Nat.min_eq_left (by omega), List.take_append_of_le_length (by rw [rowR_len]; omega)] at this
        exact this.trans (List.take_of_length_le (by rw [rowR_len]; omega))
    · have hgr := run_append_grow (P := Try.prog) w 34 34 49 i _ Try.underlying34 hi hz0 ⟨gx, 0, none⟩ ls.length cap (rowR ls) (by rw [rowR_len, hz1]; omega) (fun j u hu => World.ownsRow.cells hX rfl j u hu) ⟨g, 0, none⟩ 1 1 (refC x) (by rw [hz1]; rfl) hnews (by omega) (by omega) (growslice_fits (by omega) (by rw [hz2]; omega))
      rw [hrun] at hgr
      injection hgr with _ hw
      rw [hw]
      exact own_chg hX ((Chg.refl (fun _ => False) w).drew.alloc _) (fun _ _ h => h)
/-- What a call leaves: the net's own letters go on; the list stays. -/
def StepG (p : Nat) (lv xv : Value) (ls ms' : List Let) (sent' : Int) (w : World) (e : Ending) (w' : World) : Prop :=
  ∃ v' b lv' ds', e = .returned (.tuple #[v', .bool b]) ∧ NetAt w' p lv' ds' ms' sent' ∧ XAt w' 0 xv ls ∧ Chg (fun i => i = p ∨ lv.ownBlock = some i ∨ xv.ownBlock = some i) w w' ∧ (∀ g, lv'.ownBlock = some g → lv.ownBlock = some g ∨ w.heap.size ≤ g)
set_option maxRecDepth 100000 in
set_option maxHeartbeats 4000000 in
theorem stepG1a (w : World) (p : Nat) (lv : Value) (ds : List Value) (ls : List Let) (sent : Int) (ms : List Let) (h : NetAt w p lv ds ms sent) (hs0 : 0 ≤ sent) (hs1 : sent ≤ 1000000) (hn : ms.length < 1024) (hnl : ls.length < 1024) (xv : Value) (hX : XAt w 0 xv ls) (a f t : Int) (d : Value) (xs : List Int) (hd : SlB w d xs) (hnx : xs.length ≤ 1000) (ha : a < 0) :
    Calls Try.prog 15 #[.pointer (some ⟨p, 0, none⟩), xv, .agg #[.int .i64 1, .int .i64 a, .int .i64 f, .int .i64 t, d]] w (StepG p lv xv ls (stepI ms 1 a f t xs) (sent + stepS 1 f t) w) := by
  obtain ⟨Ax, cx, rfl⟩ := own_shape hX
  obtain ⟨A, c, rfl, hl1, hl2⟩ := hd.shape
  obtain ⟨W7, hW7⟩ : ∃ W, W = (w.alloc (.cells #[.int .i64 1, .int .i64 a, .int .i64 f, .int .i64 t, .slice A xs.length c] 36)).alloc (.cells #[.int .i64 f, .int .i64 t, .slice A xs.length c] 29) := ⟨_, rfl⟩
  have hu7 : Up w W7 := by rw [hW7]; exact ((Chg.refl _ w).alloc _).alloc _
  have hz7 : W7.heap.size = w.heap.size + 1 + 1 := by rw [hW7]; simp
  have ho7 : W7.heap[w.heap.size]? = some (.cells #[.int .i64 1, .int .i64 a, .int .i64 f, .int .i64 t, .slice A xs.length c] 36 (0, 0)) := by rw [hW7]; exact ((Chg.refl (fun _ => False) _).alloc _).heap (heap_alloc_last w _) (fun h => h)
  have hl7 : W7.heap[w.heap.size + 1]? = some (.cells #[.int .i64 f, .int .i64 t, .slice A xs.length c] 29 (0, 0)) := by rw [hW7]; have := heap_alloc_last (w.alloc (.cells #[.int .i64 1, .int .i64 a, .int .i64 f, .int .i64 t, .slice A xs.length c] 36)) (.cells #[.int .i64 f, .int .i64 t, .slice A xs.length c] 29); simpa using this
  obtain ⟨B, cb, W9, hrun, hown, hu9⟩ := app_empty W7 _ xs (Src.chg hd hu7 (fun _ _ _ h => h) (by decide)) (by omega)
  rw [hz7] at hrun hown
  have ho9 := hu9.heap ho7 (fun h => h)
  have hl9 := hu9.heap hl7 (fun h => h)
  have b0 := cell_of_row W9 (w.heap.size + 1) 0 _ _ _ hl9
  have b1 := cell_of_row W9 (w.heap.size + 1) 1 _ _ _ hl9
  have b2 := cell_of_row W9 (w.heap.size + 1) 2 _ _ _ hl9
  have fz := frozen_of_row W9 (w.heap.size + 1) 2 _ _ hl9
  have HN := Lib.hid h
  have HX := Lib.hid hX
  have HU9 := Lib.hid (hu7.trans hu9)
  have HW7 := Lib.hid hW7
  have HRUN := Lib.hid hrun
  have HOWN := Lib.hid hown
  have HO9 := Lib.hid ho9
  have HL9 := Lib.hid hl9
  clear h hX hd hu7 hz7 ho7 hl7 hrun hown hu9 ho9 hl9 hW7
  go_enter Try.func15, Try.ntmps15
  go_wp2_with (at_builtin; rw [← HW7.out]; refine wpList_run_append rfl _ _ 22 rfl _ _ rfl rfl 22 rfl HRUN.out ?_)
  obtain ⟨W10, hW10⟩ : ∃ W, W = W9.setCell ⟨w.heap.size + 1, 2, none⟩ (.slice B xs.length cb) := ⟨_, rfl⟩
  rw [← hW10]
  have hu10 : Up w W10 := by rw [hW10]; exact HU9.out.setCell _ (.inr (by simp)) _
  have hc10 : Chg (fun i => i = w.heap.size + 1) W9 W10 := by rw [hW10]; exact (Chg.refl (fun i => i = w.heap.size + 1) W9).setCell ⟨w.heap.size + 1, 2, none⟩ (.inl rfl) _
  have hown10 := own_chg HOWN.out hc10 (fun k hk hs => by have := own_ge HOWN.out k hk; omega)
  have hl10 : W10.heap[w.heap.size + 1]? = some (.cells #[.int .i64 f, .int .i64 t, .slice B xs.length cb] 29 (0, 0)) := by rw [hW10]; exact heap_setCell_same W9 (w.heap.size + 1) 2 _ _ _ HL9.out
  have hcall := send_step w W10 hu10 p lv ds ms sent HN.out hs0 hs1 hn a f t _ xs (DatB.slb (own_base hown10 (Nat.zero_le _))) hnx
  have HCALL := Lib.hid hcall
  have HOWN10 := Lib.hid hown10
  have HL10 := Lib.hid hl10
  have HU10 := Lib.hid hu10
  clear hu10 hc10 hown10 hl10 hcall hW10 b0 b1 b2 fz HL9 HOWN HRUN HW7 HO9 HU9
  refine HCALL.out.mono ?_
  rintro e W11 ⟨rfl, lv1, ds1, hn1, hc1, hb1, hsep⟩
  have hout : ∀ i, w.heap.size ≤ i → ¬ (i = p ∨ lv.ownBlock = some i) := fun i hi hs => by
    rcases hs with hs | hs
    · have := (Array.getElem?_eq_some_iff.1 HN.out.obj).1; omega
    · have := own_lt HN.out.row i hs; omega
  have hl11 := hc1.heap HL10.out (hout _ (by omega))
  have hown11 := own_chg HOWN10.out hc1 (fun k hk => hout k (by have := own_ge HOWN10.out k hk; omega))
  have hlt11 : ∀ k, (Value.slice B xs.length cb).ownBlock = some k → k < W10.heap.size := fun k hk => own_lt HOWN10.out k hk
  have hcw : Chg (fun i => i = p ∨ lv.ownBlock = some i) w W11 := (HU10.out.mono (fun _ _ h => h.elim)).then hc1 (fun i hi => .inl hi)
  obtain ⟨r, hr⟩ : ∃ r : Int, r = (if (whoI f && whoI t) = true then 0 else 11) := ⟨_, rfl⟩
  rw [← hr]
  have hrf := ref_any W11 f t _ xs (DatB.slb (own_base hown11 (Nat.zero_le _)))
  unfold refV at hrf
  dsimp only at hrf
  obtain ⟨st, hst⟩ : ∃ s, strOfNums xs = s := ⟨_, rfl⟩
  rw [hst] at hrf
  have b0 := cell_of_row W11 (w.heap.size + 1) 0 _ _ _ hl11
  have b1 := cell_of_row W11 (w.heap.size + 1) 1 _ _ _ hl11
  have b2 := cell_of_row W11 (w.heap.size + 1) 2 _ _ _ hl11
  have HR := Lib.hid hr
  have HST := Lib.hid hst
  have HRF := Lib.hid hrf
  have HN1 := Lib.hid hn1
  have HB1 := Lib.hid (show lv1.ownBlock = lv.ownBlock ∨ ∃ g, lv1.ownBlock = some g ∧ w.heap.size ≤ g from hb1.imp id (fun ⟨g, e1, e2⟩ => ⟨g, e1, Nat.le_trans HU10.out.size e2⟩))
  have HSEP := Lib.hid hsep
  have HL11 := Lib.hid hl11
  have HOWN11 := Lib.hid hown11
  have HLT := Lib.hid hlt11
  have HCW := Lib.hid hcw
  have HOUT := Lib.hid hout
  have HG10a := Lib.hid hc1.size
  clear hn1 hc1 hb1 hsep hl11 hown11 hlt11 hcw hr hst hrf HL10 HOWN10 HCALL hout
  go_wp2_with fail
  refine HRF.out.mono ?_
  rintro e W12 ⟨rfl, hb12⟩
  have hu12 := up_below hb12
  have hl12 := hu12.heap HL11.out (fun h => h)
  have c0 := cell_of_row W12 (w.heap.size + 1) 0 _ _ _ hl12
  have c1 := cell_of_row W12 (w.heap.size + 1) 1 _ _ _ hl12
  have c2 := cell_of_row W12 (w.heap.size + 1) 2 _ _ _ hl12
  have HU12 := Lib.hid hu12
  have HL12 := Lib.hid hl12
  have hu13 : Up W12 (W12.alloc (.cells #[.int .i64 f, .int .i64 t, .string st] 49)) := (Chg.refl _ _).alloc _
  have k2 := hu13.cell c2 (fun h => h)
  clear hb12 hu12 hl12 b0 b1 b2 hu13
  go_wp2_with fail
  obtain ⟨W13, hW13⟩ : ∃ W, W = W12.alloc (.cells #[.int .i64 f, .int .i64 t, .string st] 49) := ⟨_, rfl⟩
  obtain ⟨g13, hg13⟩ : ∃ g, g = W12.heap.size := ⟨_, rfl⟩
  rw [← hW13, ← hg13]
  have hy13 : W13.heap[g13]? = some (.cells #[.int .i64 f, .int .i64 t, .string st] 49 (0, 0)) := by rw [hW13, hg13]; exact heap_alloc_last _ _
  have hu13 : Up W11 W13 := by rw [hW13]; exact HU12.out.trans ((Chg.refl _ _).alloc _)
  have HY13 := Lib.hid hy13
  have HU13 := Lib.hid hu13
  have HG10 := Lib.hid HG10a.out
  have HG13 := Lib.hid (show W11.heap.size ≤ g13 by rw [hg13]; exact HU12.out.size)
  clear hy13 hu13 hW13 hg13 c0 c1 c2 k2 HU12 HL12 HRF
  go_loopw [51] (fun i wr => ∃ (j : Nat) (us : List Int), j ≤ xs.length ∧ us.length = xs.length ∧ i = .int .i64 j ∧ wr.ownsRow (w.heap.size + 1 + 1) 5 1 (.slice B xs.length cb) xs.length (u8s us) ∧ Chg (fun i => (Value.slice B xs.length cb).ownBlock = some i) W13 wr) (fun i _ => xs.length - (intOf i).toNat)
  case atStart => exact ⟨0, xs, by omega, rfl, rfl, own_chg HOWN11.out HU13.out (fun _ _ h => h), Chg.refl _ _⟩
  case round =>
    rename World => wo
    obtain ⟨j, us, hj, hus, rfl, hrow, hch⟩ := hrel
    have hne1 : ¬ (Value.slice B xs.length cb).ownBlock = some (w.heap.size + 1) := fun h => by have := own_ge HOWN11.out _ h; omega
    have hlo := hch.heap (HU13.out.heap HL11.out (fun h => h)) hne1
    have b2 := cell_of_row wo (w.heap.size + 1) 2 _ _ _ hlo
    by_cases hj2 : (j : Int) < xs.length
    · obtain ⟨gb, rfl⟩ : ∃ g, B = some ⟨g, 0, none⟩ := by
        rcases hrow.2 with ⟨_, hz⟩ | ⟨g, cap, cur, he, _⟩
        · omega
        · injection he with e1; exact ⟨g, e1⟩
      have lc := World.ownsRow.cells hrow rfl j _ (u8s_at (show j < us.length by omega))
      have fzj := World.ownsRow.frozenAt hrow j
      rw [addr_add, Nat.zero_add] at lc
      obtain ⟨z, hz⟩ : ∃ z, us.getD j 0 = z := ⟨_, rfl⟩
      rw [hz] at lc
      have HROW := Lib.hid hrow
      have HCH := Lib.hid hch
      clear hrow hch hlo hne1 hz
      go_wp2_with fail
      have hz2 : (z + 1) % 256 = (z + 1) % 256 := rfl
      obtain ⟨h1, h2⟩ := World.ownsRow.stored HROW.out j (.int .u8 ((z + 1) % 256))
      rw [u8s_set] at h1
      exact ⟨⟨j + 1, us.set j ((z + 1) % 256), by omega, by rw [List.length_set]; exact hus, by go_num, h1, HCH.out.trans ((Chg.of_grownBy h2).mono (fun i _ hi => hi.symm))⟩, by simp [intOf]; omega⟩
    · have hall : Chg (fun i => i = p ∨ lv.ownBlock = some i) w wo := (HCW.out.then HU13.out (fun i hi => hi.elim)).then hch (fun i hi => .inr (by have := own_ge HOWN11.out i hi; omega))
      have hxo := HX.out.net HN.out hall
      have hown : ∀ i, (Value.slice B xs.length cb).ownBlock = some i → w.heap.size + 1 + 1 ≤ i ∧ i < W10.heap.size := fun i hi => ⟨own_ge HOWN11.out i hi, HLT.out i hi⟩
      have hno : NetAt wo p lv1 ds1 (stepI ms 1 a f t xs) (sent + stepS 1 f t) := (HN1.out.up HU13.out).apart hch (fun hs => HOUT.out p (by have := (hown p hs).1; omega) (.inl rfl))
        (fun k hk hs => own_ne (HN1.out.up HU13.out).row (own_chg HOWN11.out HU13.out (fun _ _ h => h)) (by decide) k hk hs)
        (fun j k hj hk hs => by
          have h1 := hown k hs
          rcases HSEP.out j k hj hk with h2 | h2
          · omega
          · omega)
      have hgo : ¬ (Value.slice B xs.length cb).ownBlock = some g13 := fun h => by have := (hown g13 h).2; have := HG13.out; have := HG10.out; omega
      have hyo := hch.heap HY13.out hgo
      have y0 := cell_of_row wo g13 0 _ _ _ hyo
      have y1 := cell_of_row wo g13 1 _ _ _ hyo
      have y2 := cell_of_row wo g13 2 _ _ _ hyo
      have HALL := Lib.hid hall
      have HXO := Lib.hid hxo
      have HNO := Lib.hid hno
      obtain ⟨L, hL⟩ : ∃ L, L = stepI ms 1 a f t xs := ⟨_, rfl⟩
      obtain ⟨S, hS⟩ : ∃ S, S = sent + stepS 1 f t := ⟨_, rfl⟩
      rw [← hL, ← hS] at HNO ⊢
      have HL := Lib.hid hL
      have HS := Lib.hid hS
      clear hall hxo hno hown hgo hyo hch hlo hne1 b2 hrow hL hS HU13 HY13 HSEP HOWN11 HL11 HN1
      by_cases hw : (whoI f && whoI t) = true
      · have hwh : (0 ≤ f ∧ f ≤ 63) ∧ 0 ≤ t ∧ t ≤ 63 := by simpa [whoI] using hw
        obtain ⟨⟨hf0, hf1⟩, ht0, ht1⟩ := hwh
        obtain rfl : r = 0 := by have := HR.out; rw [if_pos hw] at this; exact this
        have HL2 := Lib.hid (show L = ms ++ [(f, t, xs)] by rw [HL.out]; unfold stepI; rw [if_pos rfl, if_pos hw])
        have hlen : ((ls.length : Int) == 1024) = false := by rw [beq_eq_false_iff_ne]; omega
        obtain ⟨W14, hW14⟩ : ∃ W, W = wo.alloc (.cells #[.int .i64 f, .int .i64 t, .string st] 49) := ⟨_, rfl⟩
        have hu14 : Up wo W14 := by rw [hW14]; exact (Chg.refl _ wo).alloc _
        have hx14 : XAt W14 0 (.slice Ax ls.length cx) ls := own_chg HXO.out hu14 (fun _ _ h => h)
        obtain ⟨B5, c5, W15, hrun, ho5, hc5⟩ := push_keep W14 0 (Nat.zero_le _) _ _ hx14 (f, t, xs) wo.heap.size (by rw [hW14, HST.out]; exact heap_alloc_last _ _) (by omega)
        rw [hW14] at hrun
        have HRUN := Lib.hid hrun
        have HO5 := Lib.hid ho5
        have HC5 := Lib.hid hc5
        have HU14 := Lib.hid hu14
        have HX14 := Lib.hid hx14
        clear hrun ho5 hc5 hu14 hx14 hW14 hw
        go_wp2_with (first
          | refine wpList_oneR rfl (.tmp 92) rfl f t st (by rfl) ?_
          | (at_builtin; refine wpList_run_append rfl _ _ 34 rfl _ _ rfl rfl 34 rfl HRUN.out ?_))
        go_ret2
        have hno2 := (HNO.out.up HU14.out).ref HX14.out HC5.out
        rw [HL2.out, HS.out] at hno2
        rw [← HL.out, HL2.out]
        refine ⟨_, _, lv1, ds1, rfl, hno2, HO5.out, ?_, ob_of HB1.out⟩
        exact ((HALL.out.then HU14.out (fun i hi => hi.elim)).mono (fun i _ hi => (hi.imp id .inl : i = p ∨ lv.ownBlock = some i ∨ (Value.slice Ax ls.length cx).ownBlock = some i))).then HC5.out (fun i hi => .inl (.inr (.inr hi)))
      · have hw0 : (whoI f && whoI t) = false := by simpa using hw
        obtain rfl : r = 11 := by have := HR.out; rw [hw0] at this; exact this
        have HL2 := Lib.hid (show L = ms by rw [HL.out]; unfold stepI; rw [if_pos rfl, if_neg hw])
        have fin : StepG p lv (.slice Ax ls.length cx) ls (stepI ms 1 a f t xs) (sent + stepS 1 f t) w (.returned (.tuple #[.slice Ax ls.length cx, .bool true])) wo := by
          have hno2 := HNO.out
          rw [HL2.out, HS.out] at hno2
          rw [← HL.out, HL2.out]
          exact ⟨_, _, lv1, ds1, rfl, hno2, HXO.out, HALL.out.mono (fun i _ hi => hi.imp id .inl), ob_of HB1.out⟩
        have FIN := Lib.hid fin
        have HW := Lib.hid hw0
        clear fin hw hw0
        by_cases hf0 : f < 0
        · go_wp2_with fail
          go_ret2
          exact FIN.out
        by_cases hf1 : 63 < f
        · go_wp2_with fail
          go_ret2
          exact FIN.out
        by_cases ht0 : t < 0
        · go_wp2_with fail
          go_ret2
          exact FIN.out
        have ht1 : 63 < t := by
          have := HW.out
          simp [whoI] at this
          omega
        go_wp2_with fail
        go_ret2
        exact FIN.out
set_option maxRecDepth 100000 in
set_option maxHeartbeats 4000000 in
theorem stepG1b (w : World) (p : Nat) (lv : Value) (ds : List Value) (ls : List Let) (sent : Int) (ms : List Let) (h : NetAt w p lv ds ms sent) (hs0 : 0 ≤ sent) (hs1 : sent ≤ 1000000) (hn : ms.length < 1024) (hnl : ls.length < 1024) (xv : Value) (hX : XAt w 0 xv ls) (a f t : Int) (d : Value) (xs : List Int) (hd : SlB w d xs) (hnx : xs.length ≤ 1000) (ha : 0 ≤ a) (ha2 : a < ls.length) :
    Calls Try.prog 15 #[.pointer (some ⟨p, 0, none⟩), xv, .agg #[.int .i64 1, .int .i64 a, .int .i64 f, .int .i64 t, d]] w (StepG p lv xv ls (stepI ms 1 a f t xs) (sent + stepS 1 f t) w) := by
  obtain ⟨Ax, cx, rfl⟩ := own_shape hX
  obtain ⟨A, c, rfl, hl1, hl2⟩ := hd.shape
  obtain ⟨W7, hW7⟩ : ∃ W, W = (w.alloc (.cells #[.int .i64 1, .int .i64 a, .int .i64 f, .int .i64 t, .slice A xs.length c] 36)).alloc (.cells #[.int .i64 f, .int .i64 t, .slice A xs.length c] 29) := ⟨_, rfl⟩
  have hu7 : Up w W7 := by rw [hW7]; exact ((Chg.refl _ w).alloc _).alloc _
  have hz7 : W7.heap.size = w.heap.size + 1 + 1 := by rw [hW7]; simp
  have ho7 : W7.heap[w.heap.size]? = some (.cells #[.int .i64 1, .int .i64 a, .int .i64 f, .int .i64 t, .slice A xs.length c] 36 (0, 0)) := by rw [hW7]; exact ((Chg.refl (fun _ => False) _).alloc _).heap (heap_alloc_last w _) (fun h => h)
  have hl7 : W7.heap[w.heap.size + 1]? = some (.cells #[.int .i64 f, .int .i64 t, .slice A xs.length c] 29 (0, 0)) := by rw [hW7]; have := heap_alloc_last (w.alloc (.cells #[.int .i64 1, .int .i64 a, .int .i64 f, .int .i64 t, .slice A xs.length c] 36)) (.cells #[.int .i64 f, .int .i64 t, .slice A xs.length c] 29); simpa using this
  obtain ⟨B, cb, W9, hrun, hown, hu9⟩ := app_empty W7 _ xs (Src.chg hd hu7 (fun _ _ _ h => h) (by decide)) (by omega)
  rw [hz7] at hrun hown
  have ho9 := hu9.heap ho7 (fun h => h)
  have hl9 := hu9.heap hl7 (fun h => h)
  have b0 := cell_of_row W9 (w.heap.size + 1) 0 _ _ _ hl9
  have b1 := cell_of_row W9 (w.heap.size + 1) 1 _ _ _ hl9
  have b2 := cell_of_row W9 (w.heap.size + 1) 2 _ _ _ hl9
  have fz := frozen_of_row W9 (w.heap.size + 1) 2 _ _ hl9
  have HN := Lib.hid h
  have HX := Lib.hid hX
  have HU9 := Lib.hid (hu7.trans hu9)
  have HW7 := Lib.hid hW7
  have HRUN := Lib.hid hrun
  have HOWN := Lib.hid hown
  have HO9 := Lib.hid ho9
  have HL9 := Lib.hid hl9
  clear h hX hd hu7 hz7 ho7 hl7 hrun hown hu9 ho9 hl9 hW7
  go_enter Try.func15, Try.ntmps15
  go_wp2_with (at_builtin; rw [← HW7.out]; refine wpList_run_append rfl _ _ 22 rfl _ _ rfl rfl 22 rfl HRUN.out ?_)
  obtain ⟨W10, hW10⟩ : ∃ W, W = W9.setCell ⟨w.heap.size + 1, 2, none⟩ (.slice B xs.length cb) := ⟨_, rfl⟩
  rw [← hW10]
  have hu10 : Up w W10 := by rw [hW10]; exact HU9.out.setCell _ (.inr (by simp)) _
  have hc10 : Chg (fun i => i = w.heap.size + 1) W9 W10 := by rw [hW10]; exact (Chg.refl (fun i => i = w.heap.size + 1) W9).setCell ⟨w.heap.size + 1, 2, none⟩ (.inl rfl) _
  have hown10 := own_chg HOWN.out hc10 (fun k hk hs => by have := own_ge HOWN.out k hk; omega)
  have hl10 : W10.heap[w.heap.size + 1]? = some (.cells #[.int .i64 f, .int .i64 t, .slice B xs.length cb] 29 (0, 0)) := by rw [hW10]; exact heap_setCell_same W9 (w.heap.size + 1) 2 _ _ _ HL9.out
  have hcall := send_step w W10 hu10 p lv ds ms sent HN.out hs0 hs1 hn a f t _ xs (DatB.slb (own_base hown10 (Nat.zero_le _))) hnx
  have HCALL := Lib.hid hcall
  have HOWN10 := Lib.hid hown10
  have HL10 := Lib.hid hl10
  have HU10 := Lib.hid hu10
  clear hu10 hc10 hown10 hl10 hcall hW10 b0 b1 b2 fz HL9 HOWN HRUN HW7 HO9 HU9
  refine HCALL.out.mono ?_
  rintro e W11 ⟨rfl, lv1, ds1, hn1, hc1, hb1, hsep⟩
  have hout : ∀ i, w.heap.size ≤ i → ¬ (i = p ∨ lv.ownBlock = some i) := fun i hi hs => by
    rcases hs with hs | hs
    · have := (Array.getElem?_eq_some_iff.1 HN.out.obj).1; omega
    · have := own_lt HN.out.row i hs; omega
  have hl11 := hc1.heap HL10.out (hout _ (by omega))
  have hown11 := own_chg HOWN10.out hc1 (fun k hk => hout k (by have := own_ge HOWN10.out k hk; omega))
  have hlt11 : ∀ k, (Value.slice B xs.length cb).ownBlock = some k → k < W10.heap.size := fun k hk => own_lt HOWN10.out k hk
  have hcw : Chg (fun i => i = p ∨ lv.ownBlock = some i) w W11 := (HU10.out.mono (fun _ _ h => h.elim)).then hc1 (fun i hi => .inl hi)
  obtain ⟨r, hr⟩ : ∃ r : Int, r = (if (whoI f && whoI t) = true then 0 else 11) := ⟨_, rfl⟩
  rw [← hr]
  have hrf := ref_any W11 f t _ xs (DatB.slb (own_base hown11 (Nat.zero_le _)))
  unfold refV at hrf
  dsimp only at hrf
  obtain ⟨st, hst⟩ : ∃ s, strOfNums xs = s := ⟨_, rfl⟩
  rw [hst] at hrf
  have b0 := cell_of_row W11 (w.heap.size + 1) 0 _ _ _ hl11
  have b1 := cell_of_row W11 (w.heap.size + 1) 1 _ _ _ hl11
  have b2 := cell_of_row W11 (w.heap.size + 1) 2 _ _ _ hl11
  have HR := Lib.hid hr
  have HST := Lib.hid hst
  have HRF := Lib.hid hrf
  have HN1 := Lib.hid hn1
  have HB1 := Lib.hid (show lv1.ownBlock = lv.ownBlock ∨ ∃ g, lv1.ownBlock = some g ∧ w.heap.size ≤ g from hb1.imp id (fun ⟨g, e1, e2⟩ => ⟨g, e1, Nat.le_trans HU10.out.size e2⟩))
  have HSEP := Lib.hid hsep
  have HL11 := Lib.hid hl11
  have HOWN11 := Lib.hid hown11
  have HLT := Lib.hid hlt11
  have HCW := Lib.hid hcw
  have HOUT := Lib.hid hout
  have HG10a := Lib.hid hc1.size
  clear hn1 hc1 hb1 hsep hl11 hown11 hlt11 hcw hr hst hrf HL10 HOWN10 HCALL hout
  go_wp2_with fail
  refine HRF.out.mono ?_
  rintro e W12 ⟨rfl, hb12⟩
  have hu12 := up_below hb12
  have hl12 := hu12.heap HL11.out (fun h => h)
  have c0 := cell_of_row W12 (w.heap.size + 1) 0 _ _ _ hl12
  have c1 := cell_of_row W12 (w.heap.size + 1) 1 _ _ _ hl12
  have c2 := cell_of_row W12 (w.heap.size + 1) 2 _ _ _ hl12
  have HU12 := Lib.hid hu12
  have HL12 := Lib.hid hl12
  have hu13 : Up W12 (W12.alloc (.cells #[.int .i64 f, .int .i64 t, .string st] 49)) := (Chg.refl _ _).alloc _
  have k2 := hu13.cell c2 (fun h => h)
  clear hb12 hu12 hl12 b0 b1 b2 hu13
  go_wp2_with fail
  obtain ⟨W13, hW13⟩ : ∃ W, W = W12.alloc (.cells #[.int .i64 f, .int .i64 t, .string st] 49) := ⟨_, rfl⟩
  obtain ⟨g13, hg13⟩ : ∃ g, g = W12.heap.size := ⟨_, rfl⟩
  rw [← hW13, ← hg13]
  have hy13 : W13.heap[g13]? = some (.cells #[.int .i64 f, .int .i64 t, .string st] 49 (0, 0)) := by rw [hW13, hg13]; exact heap_alloc_last _ _
  have hu13 : Up W11 W13 := by rw [hW13]; exact HU12.out.trans ((Chg.refl _ _).alloc _)
  have HY13 := Lib.hid hy13
  have HU13 := Lib.hid hu13
  have HG10 := Lib.hid HG10a.out
  have HG13 := Lib.hid (show W11.heap.size ≤ g13 by rw [hg13]; exact HU12.out.size)
  clear hy13 hu13 hW13 hg13 c0 c1 c2 k2 HU12 HL12 HRF
  go_loopw [51] (fun i wr => ∃ (j : Nat) (us : List Int), j ≤ xs.length ∧ us.length = xs.length ∧ i = .int .i64 j ∧ wr.ownsRow (w.heap.size + 1 + 1) 5 1 (.slice B xs.length cb) xs.length (u8s us) ∧ Chg (fun i => (Value.slice B xs.length cb).ownBlock = some i) W13 wr) (fun i _ => xs.length - (intOf i).toNat)
  case atStart => exact ⟨0, xs, by omega, rfl, rfl, own_chg HOWN11.out HU13.out (fun _ _ h => h), Chg.refl _ _⟩
  case round =>
    rename World => wo
    obtain ⟨j, us, hj, hus, rfl, hrow, hch⟩ := hrel
    have hne1 : ¬ (Value.slice B xs.length cb).ownBlock = some (w.heap.size + 1) := fun h => by have := own_ge HOWN11.out _ h; omega
    have hlo := hch.heap (HU13.out.heap HL11.out (fun h => h)) hne1
    have b2 := cell_of_row wo (w.heap.size + 1) 2 _ _ _ hlo
    by_cases hj2 : (j : Int) < xs.length
    · obtain ⟨gb, rfl⟩ : ∃ g, B = some ⟨g, 0, none⟩ := by
        rcases hrow.2 with ⟨_, hz⟩ | ⟨g, cap, cur, he, _⟩
        · omega
        · injection he with e1; exact ⟨g, e1⟩
      have lc := World.ownsRow.cells hrow rfl j _ (u8s_at (show j < us.length by omega))
      have fzj := World.ownsRow.frozenAt hrow j
      rw [addr_add, Nat.zero_add] at lc
      obtain ⟨z, hz⟩ : ∃ z, us.getD j 0 = z := ⟨_, rfl⟩
      rw [hz] at lc
      have HROW := Lib.hid hrow
      have HCH := Lib.hid hch
      clear hrow hch hlo hne1 hz
      go_wp2_with fail
      have hz2 : (z + 1) % 256 = (z + 1) % 256 := rfl
      obtain ⟨h1, h2⟩ := World.ownsRow.stored HROW.out j (.int .u8 ((z + 1) % 256))
      rw [u8s_set] at h1
      exact ⟨⟨j + 1, us.set j ((z + 1) % 256), by omega, by rw [List.length_set]; exact hus, by go_num, h1, HCH.out.trans ((Chg.of_grownBy h2).mono (fun i _ hi => hi.symm))⟩, by simp [intOf]; omega⟩
    · have hall : Chg (fun i => i = p ∨ lv.ownBlock = some i) w wo := (HCW.out.then HU13.out (fun i hi => hi.elim)).then hch (fun i hi => .inr (by have := own_ge HOWN11.out i hi; omega))
      have hxo := HX.out.net HN.out hall
      have hown : ∀ i, (Value.slice B xs.length cb).ownBlock = some i → w.heap.size + 1 + 1 ≤ i ∧ i < W10.heap.size := fun i hi => ⟨own_ge HOWN11.out i hi, HLT.out i hi⟩
      have hno : NetAt wo p lv1 ds1 (stepI ms 1 a f t xs) (sent + stepS 1 f t) := (HN1.out.up HU13.out).apart hch (fun hs => HOUT.out p (by have := (hown p hs).1; omega) (.inl rfl))
        (fun k hk hs => own_ne (HN1.out.up HU13.out).row (own_chg HOWN11.out HU13.out (fun _ _ h => h)) (by decide) k hk hs)
        (fun j k hj hk hs => by
          have h1 := hown k hs
          rcases HSEP.out j k hj hk with h2 | h2
          · omega
          · omega)
      have hgo : ¬ (Value.slice B xs.length cb).ownBlock = some g13 := fun h => by have := (hown g13 h).2; have := HG13.out; have := HG10.out; omega
      have hyo := hch.heap HY13.out hgo
      have y0 := cell_of_row wo g13 0 _ _ _ hyo
      have y1 := cell_of_row wo g13 1 _ _ _ hyo
      have y2 := cell_of_row wo g13 2 _ _ _ hyo
      have HALL := Lib.hid hall
      have HXO := Lib.hid hxo
      have HNO := Lib.hid hno
      obtain ⟨L, hL⟩ : ∃ L, L = stepI ms 1 a f t xs := ⟨_, rfl⟩
      obtain ⟨S, hS⟩ : ∃ S, S = sent + stepS 1 f t := ⟨_, rfl⟩
      rw [← hL, ← hS] at HNO ⊢
      have HL := Lib.hid hL
      have HS := Lib.hid hS
      clear hall hxo hno hown hgo hyo hch hlo hne1 b2 hrow hL hS HU13 HY13 HSEP HOWN11 HL11 HN1
      by_cases hw : (whoI f && whoI t) = true
      · have hwh : (0 ≤ f ∧ f ≤ 63) ∧ 0 ≤ t ∧ t ≤ 63 := by simpa [whoI] using hw
        obtain ⟨⟨hf0, hf1⟩, ht0, ht1⟩ := hwh
        obtain rfl : r = 0 := by have := HR.out; rw [if_pos hw] at this; exact this
        have HL2 := Lib.hid (show L = ms ++ [(f, t, xs)] by rw [HL.out]; unfold stepI; rw [if_pos rfl, if_pos hw])
        have hlen : ((ls.length : Int) == 1024) = false := by rw [beq_eq_false_iff_ne]; omega
        obtain ⟨W14, hW14⟩ : ∃ W, W = wo.alloc (.cells #[.int .i64 f, .int .i64 t, .string st] 49) := ⟨_, rfl⟩
        have hu14 : Up wo W14 := by rw [hW14]; exact (Chg.refl _ wo).alloc _
        have hx14 : XAt W14 0 (.slice Ax ls.length cx) ls := own_chg HXO.out hu14 (fun _ _ h => h)
        obtain ⟨B5, c5, W15, hrun, ho5, hc5⟩ := push_keep W14 0 (Nat.zero_le _) _ _ hx14 (f, t, xs) wo.heap.size (by rw [hW14, HST.out]; exact heap_alloc_last _ _) (by omega)
        rw [hW14] at hrun
        have HRUN := Lib.hid hrun
        have HO5 := Lib.hid ho5
        have HC5 := Lib.hid hc5
        have HU14 := Lib.hid hu14
        have HX14 := Lib.hid hx14
        clear hrun ho5 hc5 hu14 hx14 hW14 hw
        go_wp2_with (first
          | refine wpList_oneR rfl (.tmp 92) rfl f t st (by rfl) ?_
          | (at_builtin; refine wpList_run_append rfl _ _ 34 rfl _ _ rfl rfl 34 rfl HRUN.out ?_))
        go_ret2
        have hno2 := (HNO.out.up HU14.out).ref HX14.out HC5.out
        rw [HL2.out, HS.out] at hno2
        rw [← HL.out, HL2.out]
        refine ⟨_, _, lv1, ds1, rfl, hno2, HO5.out, ?_, ob_of HB1.out⟩
        exact ((HALL.out.then HU14.out (fun i hi => hi.elim)).mono (fun i _ hi => (hi.imp id .inl : i = p ∨ lv.ownBlock = some i ∨ (Value.slice Ax ls.length cx).ownBlock = some i))).then HC5.out (fun i hi => .inl (.inr (.inr hi)))
      · have hw0 : (whoI f && whoI t) = false := by simpa using hw
        obtain rfl : r = 11 := by have := HR.out; rw [hw0] at this; exact this
        have HL2 := Lib.hid (show L = ms by rw [HL.out]; unfold stepI; rw [if_pos rfl, if_neg hw])
        have fin : StepG p lv (.slice Ax ls.length cx) ls (stepI ms 1 a f t xs) (sent + stepS 1 f t) w (.returned (.tuple #[.slice Ax ls.length cx, .bool true])) wo := by
          have hno2 := HNO.out
          rw [HL2.out, HS.out] at hno2
          rw [← HL.out, HL2.out]
          exact ⟨_, _, lv1, ds1, rfl, hno2, HXO.out, HALL.out.mono (fun i _ hi => hi.imp id .inl), ob_of HB1.out⟩
        have FIN := Lib.hid fin
        have HW := Lib.hid hw0
        clear fin hw hw0
        by_cases hf0 : f < 0
        · go_wp2_with fail
          go_ret2
          exact FIN.out
        by_cases hf1 : 63 < f
        · go_wp2_with fail
          go_ret2
          exact FIN.out
        by_cases ht0 : t < 0
        · go_wp2_with fail
          go_ret2
          exact FIN.out
        have ht1 : 63 < t := by
          have := HW.out
          simp [whoI] at this
          omega
        go_wp2_with fail
        go_ret2
        exact FIN.out
set_option maxRecDepth 100000 in
set_option maxHeartbeats 4000000 in
theorem stepG1c (w : World) (p : Nat) (lv : Value) (ds : List Value) (ls : List Let) (sent : Int) (ms : List Let) (h : NetAt w p lv ds ms sent) (hs0 : 0 ≤ sent) (hs1 : sent ≤ 1000000) (hn : ms.length < 1024) (hnl : ls.length < 1024) (xv : Value) (hX : XAt w 0 xv ls) (a f t : Int) (d : Value) (xs : List Int) (hd : SlB w d xs) (hnx : xs.length ≤ 1000) (ha0 : 0 ≤ a) (ha : ¬ a < (ls.length : Int)) :
    Calls Try.prog 15 #[.pointer (some ⟨p, 0, none⟩), xv, .agg #[.int .i64 1, .int .i64 a, .int .i64 f, .int .i64 t, d]] w (StepG p lv xv ls (stepI ms 1 a f t xs) (sent + stepS 1 f t) w) := by
  obtain ⟨Ax, cx, rfl⟩ := own_shape hX
  obtain ⟨A, c, rfl, hl1, hl2⟩ := hd.shape
  obtain ⟨W7, hW7⟩ : ∃ W, W = (w.alloc (.cells #[.int .i64 1, .int .i64 a, .int .i64 f, .int .i64 t, .slice A xs.length c] 36)).alloc (.cells #[.int .i64 f, .int .i64 t, .slice A xs.length c] 29) := ⟨_, rfl⟩
  have hu7 : Up w W7 := by rw [hW7]; exact ((Chg.refl _ w).alloc _).alloc _
  have hz7 : W7.heap.size = w.heap.size + 1 + 1 := by rw [hW7]; simp
  have ho7 : W7.heap[w.heap.size]? = some (.cells #[.int .i64 1, .int .i64 a, .int .i64 f, .int .i64 t, .slice A xs.length c] 36 (0, 0)) := by rw [hW7]; exact ((Chg.refl (fun _ => False) _).alloc _).heap (heap_alloc_last w _) (fun h => h)
  have hl7 : W7.heap[w.heap.size + 1]? = some (.cells #[.int .i64 f, .int .i64 t, .slice A xs.length c] 29 (0, 0)) := by rw [hW7]; have := heap_alloc_last (w.alloc (.cells #[.int .i64 1, .int .i64 a, .int .i64 f, .int .i64 t, .slice A xs.length c] 36)) (.cells #[.int .i64 f, .int .i64 t, .slice A xs.length c] 29); simpa using this
  obtain ⟨B, cb, W9, hrun, hown, hu9⟩ := app_empty W7 _ xs (Src.chg hd hu7 (fun _ _ _ h => h) (by decide)) (by omega)
  rw [hz7] at hrun hown
  have ho9 := hu9.heap ho7 (fun h => h)
  have hl9 := hu9.heap hl7 (fun h => h)
  have b0 := cell_of_row W9 (w.heap.size + 1) 0 _ _ _ hl9
  have b1 := cell_of_row W9 (w.heap.size + 1) 1 _ _ _ hl9
  have b2 := cell_of_row W9 (w.heap.size + 1) 2 _ _ _ hl9
  have fz := frozen_of_row W9 (w.heap.size + 1) 2 _ _ hl9
  have HN := Lib.hid h
  have HX := Lib.hid hX
  have HU9 := Lib.hid (hu7.trans hu9)
  have HW7 := Lib.hid hW7
  have HRUN := Lib.hid hrun
  have HOWN := Lib.hid hown
  have HO9 := Lib.hid ho9
  have HL9 := Lib.hid hl9
  clear h hX hd hu7 hz7 ho7 hl7 hrun hown hu9 ho9 hl9 hW7
  go_enter Try.func15, Try.ntmps15
  go_wp2_with (at_builtin; rw [← HW7.out]; refine wpList_run_append rfl _ _ 22 rfl _ _ rfl rfl 22 rfl HRUN.out ?_)
  obtain ⟨W10, hW10⟩ : ∃ W, W = W9.setCell ⟨w.heap.size + 1, 2, none⟩ (.slice B xs.length cb) := ⟨_, rfl⟩
  rw [← hW10]
  have hu10 : Up w W10 := by rw [hW10]; exact HU9.out.setCell _ (.inr (by simp)) _
  have hc10 : Chg (fun i => i = w.heap.size + 1) W9 W10 := by rw [hW10]; exact (Chg.refl (fun i => i = w.heap.size + 1) W9).setCell ⟨w.heap.size + 1, 2, none⟩ (.inl rfl) _
  have hown10 := own_chg HOWN.out hc10 (fun k hk hs => by have := own_ge HOWN.out k hk; omega)
  have hl10 : W10.heap[w.heap.size + 1]? = some (.cells #[.int .i64 f, .int .i64 t, .slice B xs.length cb] 29 (0, 0)) := by rw [hW10]; exact heap_setCell_same W9 (w.heap.size + 1) 2 _ _ _ HL9.out
  have hcall := send_step w W10 hu10 p lv ds ms sent HN.out hs0 hs1 hn a f t _ xs (DatB.slb (own_base hown10 (Nat.zero_le _))) hnx
  have HCALL := Lib.hid hcall
  have HOWN10 := Lib.hid hown10
  have HL10 := Lib.hid hl10
  have HU10 := Lib.hid hu10
  clear hu10 hc10 hown10 hl10 hcall hW10 b0 b1 b2 fz HL9 HOWN HRUN HW7 HO9 HU9
  refine HCALL.out.mono ?_
  rintro e W11 ⟨rfl, lv1, ds1, hn1, hc1, hb1, hsep⟩
  have hout : ∀ i, w.heap.size ≤ i → ¬ (i = p ∨ lv.ownBlock = some i) := fun i hi hs => by
    rcases hs with hs | hs
    · have := (Array.getElem?_eq_some_iff.1 HN.out.obj).1; omega
    · have := own_lt HN.out.row i hs; omega
  have hl11 := hc1.heap HL10.out (hout _ (by omega))
  have hown11 := own_chg HOWN10.out hc1 (fun k hk => hout k (by have := own_ge HOWN10.out k hk; omega))
  have hlt11 : ∀ k, (Value.slice B xs.length cb).ownBlock = some k → k < W10.heap.size := fun k hk => own_lt HOWN10.out k hk
  have hcw : Chg (fun i => i = p ∨ lv.ownBlock = some i) w W11 := (HU10.out.mono (fun _ _ h => h.elim)).then hc1 (fun i hi => .inl hi)
  obtain ⟨r, hr⟩ : ∃ r : Int, r = (if (whoI f && whoI t) = true then 0 else 11) := ⟨_, rfl⟩
  rw [← hr]
  have hrf := ref_any W11 f t _ xs (DatB.slb (own_base hown11 (Nat.zero_le _)))
  unfold refV at hrf
  dsimp only at hrf
  obtain ⟨st, hst⟩ : ∃ s, strOfNums xs = s := ⟨_, rfl⟩
  rw [hst] at hrf
  have b0 := cell_of_row W11 (w.heap.size + 1) 0 _ _ _ hl11
  have b1 := cell_of_row W11 (w.heap.size + 1) 1 _ _ _ hl11
  have b2 := cell_of_row W11 (w.heap.size + 1) 2 _ _ _ hl11
  have HR := Lib.hid hr
  have HST := Lib.hid hst
  have HRF := Lib.hid hrf
  have HN1 := Lib.hid hn1
  have HB1 := Lib.hid (show lv1.ownBlock = lv.ownBlock ∨ ∃ g, lv1.ownBlock = some g ∧ w.heap.size ≤ g from hb1.imp id (fun ⟨g, e1, e2⟩ => ⟨g, e1, Nat.le_trans HU10.out.size e2⟩))
  have HSEP := Lib.hid hsep
  have HL11 := Lib.hid hl11
  have HOWN11 := Lib.hid hown11
  have HLT := Lib.hid hlt11
  have HCW := Lib.hid hcw
  have HOUT := Lib.hid hout
  have HG10a := Lib.hid hc1.size
  clear hn1 hc1 hb1 hsep hl11 hown11 hlt11 hcw hr hst hrf HL10 HOWN10 HCALL hout
  go_wp2_with fail
  refine HRF.out.mono ?_
  rintro e W12 ⟨rfl, hb12⟩
  have hu12 := up_below hb12
  have hl12 := hu12.heap HL11.out (fun h => h)
  have c0 := cell_of_row W12 (w.heap.size + 1) 0 _ _ _ hl12
  have c1 := cell_of_row W12 (w.heap.size + 1) 1 _ _ _ hl12
  have c2 := cell_of_row W12 (w.heap.size + 1) 2 _ _ _ hl12
  have HU12 := Lib.hid hu12
  have HL12 := Lib.hid hl12
  have hu13 : Up W12 (W12.alloc (.cells #[.int .i64 f, .int .i64 t, .string st] 49)) := (Chg.refl _ _).alloc _
  have k2 := hu13.cell c2 (fun h => h)
  clear hb12 hu12 hl12 b0 b1 b2 hu13
  go_wp2_with fail
  obtain ⟨W13, hW13⟩ : ∃ W, W = W12.alloc (.cells #[.int .i64 f, .int .i64 t, .string st] 49) := ⟨_, rfl⟩
  obtain ⟨g13, hg13⟩ : ∃ g, g = W12.heap.size := ⟨_, rfl⟩
  rw [← hW13, ← hg13]
  have hy13 : W13.heap[g13]? = some (.cells #[.int .i64 f, .int .i64 t, .string st] 49 (0, 0)) := by rw [hW13, hg13]; exact heap_alloc_last _ _
  have hu13 : Up W11 W13 := by rw [hW13]; exact HU12.out.trans ((Chg.refl _ _).alloc _)
  have HY13 := Lib.hid hy13
  have HU13 := Lib.hid hu13
  have HG10 := Lib.hid HG10a.out
  have HG13 := Lib.hid (show W11.heap.size ≤ g13 by rw [hg13]; exact HU12.out.size)
  clear hy13 hu13 hW13 hg13 c0 c1 c2 k2 HU12 HL12 HRF
  go_loopw [51] (fun i wr => ∃ (j : Nat) (us : List Int), j ≤ xs.length ∧ us.length = xs.length ∧ i = .int .i64 j ∧ wr.ownsRow (w.heap.size + 1 + 1) 5 1 (.slice B xs.length cb) xs.length (u8s us) ∧ Chg (fun i => (Value.slice B xs.length cb).ownBlock = some i) W13 wr) (fun i _ => xs.length - (intOf i).toNat)
  case atStart => exact ⟨0, xs, by omega, rfl, rfl, own_chg HOWN11.out HU13.out (fun _ _ h => h), Chg.refl _ _⟩
  case round =>
    rename World => wo
    obtain ⟨j, us, hj, hus, rfl, hrow, hch⟩ := hrel
    have hne1 : ¬ (Value.slice B xs.length cb).ownBlock = some (w.heap.size + 1) := fun h => by have := own_ge HOWN11.out _ h; omega
    have hlo := hch.heap (HU13.out.heap HL11.out (fun h => h)) hne1
    have b2 := cell_of_row wo (w.heap.size + 1) 2 _ _ _ hlo
    by_cases hj2 : (j : Int) < xs.length
    · obtain ⟨gb, rfl⟩ : ∃ g, B = some ⟨g, 0, none⟩ := by
        rcases hrow.2 with ⟨_, hz⟩ | ⟨g, cap, cur, he, _⟩
        · omega
        · injection he with e1; exact ⟨g, e1⟩
      have lc := World.ownsRow.cells hrow rfl j _ (u8s_at (show j < us.length by omega))
      have fzj := World.ownsRow.frozenAt hrow j
      rw [addr_add, Nat.zero_add] at lc
      obtain ⟨z, hz⟩ : ∃ z, us.getD j 0 = z := ⟨_, rfl⟩
      rw [hz] at lc
      have HROW := Lib.hid hrow
      have HCH := Lib.hid hch
      clear hrow hch hlo hne1 hz
      go_wp2_with fail
      have hz2 : (z + 1) % 256 = (z + 1) % 256 := rfl
      obtain ⟨h1, h2⟩ := World.ownsRow.stored HROW.out j (.int .u8 ((z + 1) % 256))
      rw [u8s_set] at h1
      exact ⟨⟨j + 1, us.set j ((z + 1) % 256), by omega, by rw [List.length_set]; exact hus, by go_num, h1, HCH.out.trans ((Chg.of_grownBy h2).mono (fun i _ hi => hi.symm))⟩, by simp [intOf]; omega⟩
    · have hall : Chg (fun i => i = p ∨ lv.ownBlock = some i) w wo := (HCW.out.then HU13.out (fun i hi => hi.elim)).then hch (fun i hi => .inr (by have := own_ge HOWN11.out i hi; omega))
      have hxo := HX.out.net HN.out hall
      have hown : ∀ i, (Value.slice B xs.length cb).ownBlock = some i → w.heap.size + 1 + 1 ≤ i ∧ i < W10.heap.size := fun i hi => ⟨own_ge HOWN11.out i hi, HLT.out i hi⟩
      have hno : NetAt wo p lv1 ds1 (stepI ms 1 a f t xs) (sent + stepS 1 f t) := (HN1.out.up HU13.out).apart hch (fun hs => HOUT.out p (by have := (hown p hs).1; omega) (.inl rfl))
        (fun k hk hs => own_ne (HN1.out.up HU13.out).row (own_chg HOWN11.out HU13.out (fun _ _ h => h)) (by decide) k hk hs)
        (fun j k hj hk hs => by
          have h1 := hown k hs
          rcases HSEP.out j k hj hk with h2 | h2
          · omega
          · omega)
      have hgo : ¬ (Value.slice B xs.length cb).ownBlock = some g13 := fun h => by have := (hown g13 h).2; have := HG13.out; have := HG10.out; omega
      have hyo := hch.heap HY13.out hgo
      have y0 := cell_of_row wo g13 0 _ _ _ hyo
      have y1 := cell_of_row wo g13 1 _ _ _ hyo
      have y2 := cell_of_row wo g13 2 _ _ _ hyo
      have HALL := Lib.hid hall
      have HXO := Lib.hid hxo
      have HNO := Lib.hid hno
      obtain ⟨L, hL⟩ : ∃ L, L = stepI ms 1 a f t xs := ⟨_, rfl⟩
      obtain ⟨S, hS⟩ : ∃ S, S = sent + stepS 1 f t := ⟨_, rfl⟩
      rw [← hL, ← hS] at HNO ⊢
      have HL := Lib.hid hL
      have HS := Lib.hid hS
      clear hall hxo hno hown hgo hyo hch hlo hne1 b2 hrow hL hS HU13 HY13 HSEP HOWN11 HL11 HN1
      by_cases hw : (whoI f && whoI t) = true
      · have hwh : (0 ≤ f ∧ f ≤ 63) ∧ 0 ≤ t ∧ t ≤ 63 := by simpa [whoI] using hw
        obtain ⟨⟨hf0, hf1⟩, ht0, ht1⟩ := hwh
        obtain rfl : r = 0 := by have := HR.out; rw [if_pos hw] at this; exact this
        have HL2 := Lib.hid (show L = ms ++ [(f, t, xs)] by rw [HL.out]; unfold stepI; rw [if_pos rfl, if_pos hw])
        have hlen : ((ls.length : Int) == 1024) = false := by rw [beq_eq_false_iff_ne]; omega
        obtain ⟨W14, hW14⟩ : ∃ W, W = wo.alloc (.cells #[.int .i64 f, .int .i64 t, .string st] 49) := ⟨_, rfl⟩
        have hu14 : Up wo W14 := by rw [hW14]; exact (Chg.refl _ wo).alloc _
        have hx14 : XAt W14 0 (.slice Ax ls.length cx) ls := own_chg HXO.out hu14 (fun _ _ h => h)
        obtain ⟨B5, c5, W15, hrun, ho5, hc5⟩ := push_keep W14 0 (Nat.zero_le _) _ _ hx14 (f, t, xs) wo.heap.size (by rw [hW14, HST.out]; exact heap_alloc_last _ _) (by omega)
        rw [hW14] at hrun
        have HRUN := Lib.hid hrun
        have HO5 := Lib.hid ho5
        have HC5 := Lib.hid hc5
        have HU14 := Lib.hid hu14
        have HX14 := Lib.hid hx14
        clear hrun ho5 hc5 hu14 hx14 hW14 hw
        go_wp2_with (first
          | refine wpList_oneR rfl (.tmp 92) rfl f t st (by rfl) ?_
          | (at_builtin; refine wpList_run_append rfl _ _ 34 rfl _ _ rfl rfl 34 rfl HRUN.out ?_))
        go_ret2
        have hno2 := (HNO.out.up HU14.out).ref HX14.out HC5.out
        rw [HL2.out, HS.out] at hno2
        rw [← HL.out, HL2.out]
        refine ⟨_, _, lv1, ds1, rfl, hno2, HO5.out, ?_, ob_of HB1.out⟩
        exact ((HALL.out.then HU14.out (fun i hi => hi.elim)).mono (fun i _ hi => (hi.imp id .inl : i = p ∨ lv.ownBlock = some i ∨ (Value.slice Ax ls.length cx).ownBlock = some i))).then HC5.out (fun i hi => .inl (.inr (.inr hi)))
      · have hw0 : (whoI f && whoI t) = false := by simpa using hw
        obtain rfl : r = 11 := by have := HR.out; rw [hw0] at this; exact this
        have HL2 := Lib.hid (show L = ms by rw [HL.out]; unfold stepI; rw [if_pos rfl, if_neg hw])
        have fin : StepG p lv (.slice Ax ls.length cx) ls (stepI ms 1 a f t xs) (sent + stepS 1 f t) w (.returned (.tuple #[.slice Ax ls.length cx, .bool true])) wo := by
          have hno2 := HNO.out
          rw [HL2.out, HS.out] at hno2
          rw [← HL.out, HL2.out]
          exact ⟨_, _, lv1, ds1, rfl, hno2, HXO.out, HALL.out.mono (fun i _ hi => hi.imp id .inl), ob_of HB1.out⟩
        have FIN := Lib.hid fin
        have HW := Lib.hid hw0
        clear fin hw hw0
        by_cases hf0 : f < 0
        · go_wp2_with fail
          go_ret2
          exact FIN.out
        by_cases hf1 : 63 < f
        · go_wp2_with fail
          go_ret2
          exact FIN.out
        by_cases ht0 : t < 0
        · go_wp2_with fail
          go_ret2
          exact FIN.out
        have ht1 : 63 < t := by
          have := HW.out
          simp [whoI] at this
          omega
        go_wp2_with fail
        go_ret2
        exact FIN.out
end Go.Proofs.Ytofmblkmfbioiaa
