/-
  step, walked: a letter is sent.
-/
import Derived.Test.YtofmblkmfbioiaaN18
namespace Go.Proofs.Ytofmblkmfbioiaa
open Go.RowKit
theorem u8s_set (l : List Int) (j : Nat) (z : Int) : (u8s l).set j (.int .u8 z) = u8s (l.set j z) := by simp [u8s]
theorem info5z : (Try.prog.info? 5).map (fun i => (i.zero, i.size, i.bytes)) = some (some (.int .u8 0), 1, 1) := by kernel_rfl
/-- An append of bytes to an empty row. -/
theorem app_empty (w : World) (d : Value) (xs : List Int) (h : SlB w d xs) (hn : xs.length ≤ 100000) : ∃ B c w', (Builtin.append_ #[22, 22] 22 #[.slice (some ⟨w.heap.size, 0, none⟩) 0 0, d]).run Try.prog (w.alloc (.cells #[] 5)) = .ok (.slice B xs.length c) w' ∧
    w'.ownsRow w.heap.size 5 1 (.slice B xs.length c) xs.length (u8s xs) ∧ Up w w' := by
  obtain ⟨v', w', hr, ho, hg, _, hb⟩ := ap_run (P := Try.prog) (w.alloc (.cells #[] 5)) 22 22 w.heap.size 5 (.int .u8 0) 1 1 Try.underlying22 info5z rfl (by decide) _ 0 [] (World.ownsRow_made w #[] 0 (Nat.le_refl _) (by omega) rfl) d xs.length (u8s xs)
    (Src.chg h ((Chg.refl (fun _ => False) w).alloc _) (fun _ _ _ h => h) (by decide)) (u8s_one xs) (by omega) (by omega) (by simp)
  rw [Nat.zero_add, List.nil_append] at ho
  obtain ⟨B, c, rfl⟩ := own_shape ho
  refine ⟨B, c, w', hr, ho, ((Chg.refl (fun _ => False) w).alloc _).then (Chg.of_grownBy hg) (fun i hi => ?_)⟩
  simp [Value.ownBlock] at hi
  exact .inr (by omega)

/-- What Send leaves, where the bytes that it was given are of a row made behind the world b. -/
def SentTo (b p : Nat) (lv : Value) (ls1 : List Let) (sent1 : Int) (w w' : World) : Prop :=
  ∃ lv1 ds1, NetAt w' p lv1 ds1 ls1 sent1 ∧ Chg (fun i => i = p ∨ lv.ownBlock = some i) w w' ∧ (lv1.ownBlock = lv.ownBlock ∨ ∃ g, lv1.ownBlock = some g ∧ w.heap.size ≤ g) ∧
    ∀ j g, j < ls1.length → (ds1.getD j undef).ownBlock = some g → g < b ∨ w.heap.size ≤ g
theorem send_step (w0 w : World) (hu : Up w0 w) (p : Nat) (lv : Value) (ds : List Value) (ls : List Let) (sent : Int) (h : NetAt w0 p lv ds ls sent) (hs0 : 0 ≤ sent) (hs1 : sent ≤ 1000000) (hn : ls.length < 1024) (a f t : Int) (d : Value) (xs : List Int) (hd : SlB w d xs) (hnx : xs.length ≤ 1000) :
    Calls Try.prog 10 #[.pointer (some ⟨p, 0, none⟩), .agg #[.int .i64 f, .int .i64 t, d]] w (fun e w' => e = .returned (.int .i64 (if (whoI f && whoI t) = true then 0 else 11)) ∧ SentTo w0.heap.size p lv (stepI ls 1 a f t xs) (sent + stepS 1 f t) w w') := by
  have old : ∀ j g, j < ls.length → (ds.getD j undef).ownBlock = some g → g < w0.heap.size := fun j g hj hg => own_lt (h.dat j hj) g hg
  refine (send_new w p lv ds ls sent (h.up hu) hs0 hs1 f t d xs hd (by omega)).mono ?_
  rintro e w' ⟨rfl, hr⟩
  by_cases hw : (whoI f && whoI t) = true
  · have hsi : sendI ls (f, t, xs) = 0 := by unfold sendI; rw [if_pos hw, if_pos hn]
    rw [hsi] at hr ⊢
    rw [if_pos hw]
    refine ⟨rfl, ?_⟩
    obtain ⟨_, lv1, d1, h1, h2, h3, h4⟩ := hr.resolve_left (fun h => h.1 rfl)
    unfold stepI stepS
    rw [if_pos rfl, if_pos hw, if_pos rfl, if_pos hw]
    refine ⟨lv1, ds ++ [d1], h1, h2, h3, fun j g hj hg => ?_⟩
    rw [List.length_append, List.length_singleton] at hj
    have hl := h.len
    by_cases hjk : j < ls.length
    · rw [show (ds ++ [d1]).getD j undef = ds.getD j undef by simp [List.getD_eq_getElem?_getD, List.getElem?_append_left (show j < ds.length by omega)]] at hg
      exact .inl (old j g hjk hg)
    · obtain rfl : j = ls.length := by omega
      rw [show (ds ++ [d1]).getD ls.length undef = d1 by rw [← hl]; simp [List.getD_eq_getElem?_getD]] at hg
      exact .inr (h4 g hg)
  · have hsi : sendI ls (f, t, xs) = 11 := by unfold sendI; rw [if_neg hw]
    rw [hsi] at hr ⊢
    rw [if_neg hw]
    refine ⟨rfl, ?_⟩
    have hu2 := (hr.resolve_right (fun h => absurd h.1 (by decide))).2
    unfold stepI stepS
    rw [if_pos rfl, if_neg hw, if_pos rfl, if_neg hw, Int.add_zero]
    exact ⟨lv, ds, (h.up hu).up hu2, hu2.mono (fun _ _ h => h.elim), .inl rfl, fun j g hj hg => .inl (old j g hj hg)⟩
set_option maxRecDepth 100000 in
set_option maxHeartbeats 4000000 in
theorem step1a (w : World) (p : Nat) (lv : Value) (ds : List Value) (ls : List Let) (sent : Int) (h : NetAt w p lv ds ls sent) (hs0 : 0 ≤ sent) (hs1 : sent ≤ 1000000) (hn : ls.length < 1024) (xv : Value) (hX : XAt w 0 xv ls) (a f t : Int) (d : Value) (xs : List Int) (hd : SlB w d xs) (hnx : xs.length ≤ 1000) (ha : a < 0) :
    Calls Try.prog 15 #[.pointer (some ⟨p, 0, none⟩), xv, .agg #[.int .i64 1, .int .i64 a, .int .i64 f, .int .i64 t, d]] w (StepPost p lv xv (stepI ls 1 a f t xs) (sent + stepS 1 f t) w) := by
  obtain ⟨Ax, cx, rfl⟩ := own_shape hX
  obtain ⟨A, c, rfl, hl1, hl2⟩ := hd.shape
  obtain ⟨W7, hW7⟩ : ∃ W, W = (w.alloc (.cells #[.int .i64 1, .int .i64 a, .int .i64 f, .int .i64 t, .slice A xs.length c] 36)).alloc (.cells #[.int .i64 f, .int .i64 t, .slice A xs.length c] 29) := ⟨_, rfl⟩
  have hu7 : Up w W7 := by rw [hW7]; exact ((Chg.refl _ w).alloc _).alloc _
  have hz7 : W7.heap.size = w.heap.size + 1 + 1 := by rw [hW7]; simp
  have ho7 : W7.heap[w.heap.size]? = some (.cells #[.int .i64 1, .int .i64 a, .int .i64 f, .int .i64 t, .slice A xs.length c] 36 (0, 0)) := by rw [hW7]; exact ((Chg.refl (fun _ => False) _).alloc _).heap (heap_alloc_last w _) (fun h => h)
  have hl7 : W7.heap[w.heap.size + 1]? = some (.cells #[.int .i64 f, .int .i64 t, .slice A xs.length c] 29 (0, 0)) := by rw [hW7]; have := heap_alloc_last (w.alloc (.cells #[.int .i64 1, .int .i64 a, .int .i64 f, .int .i64 t, .slice A xs.length c] 36)) (.cells #[.int .i64 f, .int .i64 t, .slice A xs.length c] 29); simpa using this
  obtain ⟨B, cb, W9, hrun, hown, hu9⟩ := app_empty W7 _ xs (Src.chg hd hu7 (fun _ _ _ h => h) (by decide)) (by omega)
  rw [hz7] at hrun hown
  have ho9 := hu9.heap ho7 (fun h => h)
  have hl9 := hu9.heap hl7 (fun h => h)
  have b0 := cell_of_row W9 (w.heap.size + 1) 0 _ _ _ hl9
  have b1 := cell_of_row W9 (w.heap.size + 1) 1 _ _ _ hl9
  have b2 := cell_of_row W9 (w.heap.size + 1) 2 _ _ _ hl9
  have fz := frozen_of_row W9 (w.heap.size + 1) 2 _ _ hl9
  have HN := Lib.hid h
  have HX := Lib.hid hX
  have HU9 := Lib.hid (hu7.trans hu9)
  have HW7 := Lib.hid hW7
  have HRUN := Lib.hid hrun
  have HOWN := Lib.hid hown
  have HO9 := Lib.hid ho9
  have HL9 := Lib.hid hl9
  clear h hX hd hu7 hz7 ho7 hl7 hrun hown hu9 ho9 hl9 hW7
  go_enter Try.func15, Try.ntmps15
  go_wp2_with (at_builtin; rw [← HW7.out]; refine wpList_run_append rfl _ _ 22 rfl _ _ rfl rfl 22 rfl HRUN.out ?_)
  obtain ⟨W10, hW10⟩ : ∃ W, W = W9.setCell ⟨w.heap.size + 1, 2, none⟩ (.slice B xs.length cb) := ⟨_, rfl⟩
  rw [← hW10]
  have hu10 : Up w W10 := by rw [hW10]; exact HU9.out.setCell _ (.inr (by simp)) _
  have hc10 : Chg (fun i => i = w.heap.size + 1) W9 W10 := by rw [hW10]; exact (Chg.refl (fun i => i = w.heap.size + 1) W9).setCell ⟨w.heap.size + 1, 2, none⟩ (.inl rfl) _
  have hown10 := own_chg HOWN.out hc10 (fun k hk hs => by have := own_ge HOWN.out k hk; omega)
  have hl10 : W10.heap[w.heap.size + 1]? = some (.cells #[.int .i64 f, .int .i64 t, .slice B xs.length cb] 29 (0, 0)) := by rw [hW10]; exact heap_setCell_same W9 (w.heap.size + 1) 2 _ _ _ HL9.out
  have hcall := send_step w W10 hu10 p lv ds ls sent HN.out hs0 hs1 hn a f t _ xs (DatB.slb (own_base hown10 (Nat.zero_le _))) hnx
  have HCALL := Lib.hid hcall
  have HOWN10 := Lib.hid hown10
  have HL10 := Lib.hid hl10
  have HU10 := Lib.hid hu10
  clear hu10 hc10 hown10 hl10 hcall hW10 b0 b1 b2 fz HL9 HOWN HRUN HW7 HO9 HU9
  refine HCALL.out.mono ?_
  rintro e W11 ⟨rfl, lv1, ds1, hn1, hc1, hb1, hsep⟩
  have hout : ∀ i, w.heap.size ≤ i → ¬ (i = p ∨ lv.ownBlock = some i) := fun i hi hs => by
    rcases hs with hs | hs
    · have := (Array.getElem?_eq_some_iff.1 HN.out.obj).1; omega
    · have := own_lt HN.out.row i hs; omega
  have hl11 := hc1.heap HL10.out (hout _ (by omega))
  have hown11 := own_chg HOWN10.out hc1 (fun k hk => hout k (by have := own_ge HOWN10.out k hk; omega))
  have hlt11 : ∀ k, (Value.slice B xs.length cb).ownBlock = some k → k < W10.heap.size := fun k hk => own_lt HOWN10.out k hk
  have hcw : Chg (fun i => i = p ∨ lv.ownBlock = some i) w W11 := (HU10.out.mono (fun _ _ h => h.elim)).then hc1 (fun i hi => .inl hi)
  obtain ⟨r, hr⟩ : ∃ r : Int, r = (if (whoI f && whoI t) = true then 0 else 11) := ⟨_, rfl⟩
  rw [← hr]
  have hrf := ref_any W11 f t _ xs (DatB.slb (own_base hown11 (Nat.zero_le _)))
  unfold refV at hrf
  dsimp only at hrf
  obtain ⟨st, hst⟩ : ∃ s, strOfNums xs = s := ⟨_, rfl⟩
  rw [hst] at hrf
  have b0 := cell_of_row W11 (w.heap.size + 1) 0 _ _ _ hl11
  have b1 := cell_of_row W11 (w.heap.size + 1) 1 _ _ _ hl11
  have b2 := cell_of_row W11 (w.heap.size + 1) 2 _ _ _ hl11
  have HR := Lib.hid hr
  have HST := Lib.hid hst
  have HRF := Lib.hid hrf
  have HN1 := Lib.hid hn1
  have HB1 := Lib.hid (show lv1.ownBlock = lv.ownBlock ∨ ∃ g, lv1.ownBlock = some g ∧ w.heap.size ≤ g from hb1.imp id (fun ⟨g, e1, e2⟩ => ⟨g, e1, Nat.le_trans HU10.out.size e2⟩))
  have HSEP := Lib.hid hsep
  have HL11 := Lib.hid hl11
  have HOWN11 := Lib.hid hown11
  have HLT := Lib.hid hlt11
  have HCW := Lib.hid hcw
  have HOUT := Lib.hid hout
  have HG10a := Lib.hid hc1.size
  clear hn1 hc1 hb1 hsep hl11 hown11 hlt11 hcw hr hst hrf HL10 HOWN10 HCALL hout
  go_wp2_with fail
  refine HRF.out.mono ?_
  rintro e W12 ⟨rfl, hb12⟩
  have hu12 := up_below hb12
  have hl12 := hu12.heap HL11.out (fun h => h)
  have c0 := cell_of_row W12 (w.heap.size + 1) 0 _ _ _ hl12
  have c1 := cell_of_row W12 (w.heap.size + 1) 1 _ _ _ hl12
  have c2 := cell_of_row W12 (w.heap.size + 1) 2 _ _ _ hl12
  have HU12 := Lib.hid hu12
  have HL12 := Lib.hid hl12
  have hu13 : Up W12 (W12.alloc (.cells #[.int .i64 f, .int .i64 t, .string st] 49)) := (Chg.refl _ _).alloc _
  have k2 := hu13.cell c2 (fun h => h)
  clear hb12 hu12 hl12 b0 b1 b2 hu13
  go_wp2_with fail
  obtain ⟨W13, hW13⟩ : ∃ W, W = W12.alloc (.cells #[.int .i64 f, .int .i64 t, .string st] 49) := ⟨_, rfl⟩
  obtain ⟨g13, hg13⟩ : ∃ g, g = W12.heap.size := ⟨_, rfl⟩
  rw [← hW13, ← hg13]
  have hy13 : W13.heap[g13]? = some (.cells #[.int .i64 f, .int .i64 t, .string st] 49 (0, 0)) := by rw [hW13, hg13]; exact heap_alloc_last _ _
  have hu13 : Up W11 W13 := by rw [hW13]; exact HU12.out.trans ((Chg.refl _ _).alloc _)
  have HY13 := Lib.hid hy13
  have HU13 := Lib.hid hu13
  have HG10 := Lib.hid HG10a.out
  have HG13 := Lib.hid (show W11.heap.size ≤ g13 by rw [hg13]; exact HU12.out.size)
  clear hy13 hu13 hW13 hg13 c0 c1 c2 k2 HU12 HL12 HRF
  go_loopw [51] (fun i wr => ∃ (j : Nat) (us : List Int), j ≤ xs.length ∧ us.length = xs.length ∧ i = .int .i64 j ∧ wr.ownsRow (w.heap.size + 1 + 1) 5 1 (.slice B xs.length cb) xs.length (u8s us) ∧ Chg (fun i => (Value.slice B xs.length cb).ownBlock = some i) W13 wr) (fun i _ => xs.length - (intOf i).toNat)
  case atStart => exact ⟨0, xs, by omega, rfl, rfl, own_chg HOWN11.out HU13.out (fun _ _ h => h), Chg.refl _ _⟩
  case round =>
    rename World => wo
    obtain ⟨j, us, hj, hus, rfl, hrow, hch⟩ := hrel
    have hne1 : ¬ (Value.slice B xs.length cb).ownBlock = some (w.heap.size + 1) := fun h => by have := own_ge HOWN11.out _ h; omega
    have hlo := hch.heap (HU13.out.heap HL11.out (fun h => h)) hne1
    have b2 := cell_of_row wo (w.heap.size + 1) 2 _ _ _ hlo
    by_cases hj2 : (j : Int) < xs.length
    · obtain ⟨gb, rfl⟩ : ∃ g, B = some ⟨g, 0, none⟩ := by
        rcases hrow.2 with ⟨_, hz⟩ | ⟨g, cap, cur, he, _⟩
        · omega
        · injection he with e1; exact ⟨g, e1⟩
      have lc := World.ownsRow.cells hrow rfl j _ (u8s_at (show j < us.length by omega))
      have fzj := World.ownsRow.frozenAt hrow j
      rw [addr_add, Nat.zero_add] at lc
      obtain ⟨z, hz⟩ : ∃ z, us.getD j 0 = z := ⟨_, rfl⟩
      rw [hz] at lc
      have HROW := Lib.hid hrow
      have HCH := Lib.hid hch
      clear hrow hch hlo hne1 hz
      go_wp2_with fail
      have hz2 : (z + 1) % 256 = (z + 1) % 256 := rfl
      obtain ⟨h1, h2⟩ := World.ownsRow.stored HROW.out j (.int .u8 ((z + 1) % 256))
      rw [u8s_set] at h1
      exact ⟨⟨j + 1, us.set j ((z + 1) % 256), by omega, by rw [List.length_set]; exact hus, by go_num, h1, HCH.out.trans ((Chg.of_grownBy h2).mono (fun i _ hi => hi.symm))⟩, by simp [intOf]; omega⟩
    · have hall : Chg (fun i => i = p ∨ lv.ownBlock = some i) w wo := (HCW.out.then HU13.out (fun i hi => hi.elim)).then hch (fun i hi => .inr (by have := own_ge HOWN11.out i hi; omega))
      have hxo := HX.out.net HN.out hall
      have hown : ∀ i, (Value.slice B xs.length cb).ownBlock = some i → w.heap.size + 1 + 1 ≤ i ∧ i < W10.heap.size := fun i hi => ⟨own_ge HOWN11.out i hi, HLT.out i hi⟩
      have hno : NetAt wo p lv1 ds1 (stepI ls 1 a f t xs) (sent + stepS 1 f t) := (HN1.out.up HU13.out).apart hch (fun hs => HOUT.out p (by have := (hown p hs).1; omega) (.inl rfl))
        (fun k hk hs => own_ne (HN1.out.up HU13.out).row (own_chg HOWN11.out HU13.out (fun _ _ h => h)) (by decide) k hk hs)
        (fun j k hj hk hs => by
          have h1 := hown k hs
          rcases HSEP.out j k hj hk with h2 | h2
          · omega
          · omega)
      have hgo : ¬ (Value.slice B xs.length cb).ownBlock = some g13 := fun h => by have := (hown g13 h).2; have := HG13.out; have := HG10.out; omega
      have hyo := hch.heap HY13.out hgo
      have y0 := cell_of_row wo g13 0 _ _ _ hyo
      have y1 := cell_of_row wo g13 1 _ _ _ hyo
      have y2 := cell_of_row wo g13 2 _ _ _ hyo
      have HALL := Lib.hid hall
      have HXO := Lib.hid hxo
      have HNO := Lib.hid hno
      obtain ⟨L, hL⟩ : ∃ L, L = stepI ls 1 a f t xs := ⟨_, rfl⟩
      obtain ⟨S, hS⟩ : ∃ S, S = sent + stepS 1 f t := ⟨_, rfl⟩
      rw [← hL, ← hS] at HNO ⊢
      have HL := Lib.hid hL
      have HS := Lib.hid hS
      clear hall hxo hno hown hgo hyo hch hlo hne1 b2 hrow hL hS HU13 HY13 HSEP HOWN11 HL11 HN1
      by_cases hw : (whoI f && whoI t) = true
      · have hwh : (0 ≤ f ∧ f ≤ 63) ∧ 0 ≤ t ∧ t ≤ 63 := by simpa [whoI] using hw
        obtain ⟨⟨hf0, hf1⟩, ht0, ht1⟩ := hwh
        obtain rfl : r = 0 := by have := HR.out; rw [if_pos hw] at this; exact this
        have HL2 := Lib.hid (show L = ls ++ [(f, t, xs)] by rw [HL.out]; unfold stepI; rw [if_pos rfl, if_pos hw])
        have hlen : ((ls.length : Int) == 1024) = false := by rw [beq_eq_false_iff_ne]; omega
        obtain ⟨W14, hW14⟩ : ∃ W, W = wo.alloc (.cells #[.int .i64 f, .int .i64 t, .string st] 49) := ⟨_, rfl⟩
        have hu14 : Up wo W14 := by rw [hW14]; exact (Chg.refl _ wo).alloc _
        have hx14 : XAt W14 0 (.slice Ax ls.length cx) ls := own_chg HXO.out hu14 (fun _ _ h => h)
        obtain ⟨B5, c5, W15, hrun, ho5, hc5, hb5⟩ := push_ref W14 0 (Nat.zero_le _) _ _ hx14 (f, t, xs) wo.heap.size (by rw [hW14, HST.out]; exact heap_alloc_last _ _) (by omega)
        rw [hW14] at hrun
        have HRUN := Lib.hid hrun
        have HO5 := Lib.hid ho5
        have HC5 := Lib.hid hc5
        have HB5 := Lib.hid (hb5.imp id (fun ⟨g, e1, e2⟩ => (⟨g, e1, Nat.le_trans HALL.out.size (Nat.le_trans hu14.size e2)⟩ : ∃ g, (Value.slice B5 (ls.length + 1) c5).ownBlock = some g ∧ w.heap.size ≤ g)))
        have HU14 := Lib.hid hu14
        have HX14 := Lib.hid hx14
        clear hrun ho5 hc5 hb5 hu14 hx14 hW14 hw
        go_wp2_with (first
          | refine wpList_oneR rfl (.tmp 92) rfl f t st (by rfl) ?_
          | (at_builtin; refine wpList_run_append rfl _ _ 34 rfl _ _ rfl rfl 34 rfl HRUN.out ?_))
        go_ret2
        have hno2 := (HNO.out.up HU14.out).ref HX14.out HC5.out
        rw [HL2.out, HS.out] at hno2
        rw [← HL.out, HL2.out]
        have e1 : (ls ++ [((f, t, xs) : Let)]).length = ls.length + 1 := by simp
        refine ⟨B5, c5, lv1, ds1, by rw [e1]; rfl, by rw [e1]; exact HO5.out, hno2, ?_, ob_of HB1.out, by rw [e1]; exact ob_of HB5.out⟩
        exact ((HALL.out.then HU14.out (fun i hi => hi.elim)).mono (fun i _ hi => (hi.imp id .inl : i = p ∨ lv.ownBlock = some i ∨ (Value.slice Ax ls.length cx).ownBlock = some i))).then HC5.out (fun i hi => .inl (.inr (.inr hi)))
      · have hw0 : (whoI f && whoI t) = false := by simpa using hw
        obtain rfl : r = 11 := by have := HR.out; rw [hw0] at this; exact this
        have HL2 := Lib.hid (show L = ls by rw [HL.out]; unfold stepI; rw [if_pos rfl, if_neg hw])
        have fin : StepPost p lv (.slice Ax ls.length cx) (stepI ls 1 a f t xs) (sent + stepS 1 f t) w (.returned (.tuple #[.slice Ax ls.length cx, .bool true])) wo := by
          have hno2 := HNO.out
          rw [HL2.out, HS.out] at hno2
          rw [← HL.out, HL2.out]
          exact ⟨Ax, cx, lv1, ds1, rfl, HXO.out, hno2, HALL.out.mono (fun i _ hi => hi.imp id .inl), ob_of HB1.out, fun _ h => .inl h⟩
        have FIN := Lib.hid fin
        have HW := Lib.hid hw0
        clear fin hw hw0
        by_cases hf0 : f < 0
        · go_wp2_with fail
          go_ret2
          exact FIN.out
        by_cases hf1 : 63 < f
        · go_wp2_with fail
          go_ret2
          exact FIN.out
        by_cases ht0 : t < 0
        · go_wp2_with fail
          go_ret2
          exact FIN.out
        have ht1 : 63 < t := by
          have := HW.out
          simp [whoI] at this
          omega
        go_wp2_with fail
        go_ret2
        exact FIN.out
set_option maxRecDepth 100000 in
set_option maxHeartbeats 4000000 in
theorem step1b (w : World) (p : Nat) (lv : Value) (ds : List Value) (ls : List Let) (sent : Int) (h : NetAt w p lv ds ls sent) (hs0 : 0 ≤ sent) (hs1 : sent ≤ 1000000) (hn : ls.length < 1024) (xv : Value) (hX : XAt w 0 xv ls) (a f t : Int) (d : Value) (xs : List Int) (hd : SlB w d xs) (hnx : xs.length ≤ 1000) (ha : 0 ≤ a) (ha2 : a < ls.length) :
    Calls Try.prog 15 #[.pointer (some ⟨p, 0, none⟩), xv, .agg #[.int .i64 1, .int .i64 a, .int .i64 f, .int .i64 t, d]] w (StepPost p lv xv (stepI ls 1 a f t xs) (sent + stepS 1 f t) w) := by
  obtain ⟨Ax, cx, rfl⟩ := own_shape hX
  obtain ⟨A, c, rfl, hl1, hl2⟩ := hd.shape
  obtain ⟨W7, hW7⟩ : ∃ W, W = (w.alloc (.cells #[.int .i64 1, .int .i64 a, .int .i64 f, .int .i64 t, .slice A xs.length c] 36)).alloc (.cells #[.int .i64 f, .int .i64 t, .slice A xs.length c] 29) := ⟨_, rfl⟩
  have hu7 : Up w W7 := by rw [hW7]; exact ((Chg.refl _ w).alloc _).alloc _
  have hz7 : W7.heap.size = w.heap.size + 1 + 1 := by rw [hW7]; simp
  have ho7 : W7.heap[w.heap.size]? = some (.cells #[.int .i64 1, .int .i64 a, .int .i64 f, .int .i64 t, .slice A xs.length c] 36 (0, 0)) := by rw [hW7]; exact ((Chg.refl (fun _ => False) _).alloc _).heap (heap_alloc_last w _) (fun h => h)
  have hl7 : W7.heap[w.heap.size + 1]? = some (.cells #[.int .i64 f, .int .i64 t, .slice A xs.length c] 29 (0, 0)) := by rw [hW7]; have := heap_alloc_last (w.alloc (.cells #[.int .i64 1, .int .i64 a, .int .i64 f, .int .i64 t, .slice A xs.length c] 36)) (.cells #[.int .i64 f, .int .i64 t, .slice A xs.length c] 29); simpa using this
  obtain ⟨B, cb, W9, hrun, hown, hu9⟩ := app_empty W7 _ xs (Src.chg hd hu7 (fun _ _ _ h => h) (by decide)) (by omega)
  rw [hz7] at hrun hown
  have ho9 := hu9.heap ho7 (fun h => h)
  have hl9 := hu9.heap hl7 (fun h => h)
  have b0 := cell_of_row W9 (w.heap.size + 1) 0 _ _ _ hl9
  have b1 := cell_of_row W9 (w.heap.size + 1) 1 _ _ _ hl9
  have b2 := cell_of_row W9 (w.heap.size + 1) 2 _ _ _ hl9
  have fz := frozen_of_row W9 (w.heap.size + 1) 2 _ _ hl9
  have HN := Lib.hid h
  have HX := Lib.hid hX
  have HU9 := Lib.hid (hu7.trans hu9)
  have HW7 := Lib.hid hW7
  have HRUN := Lib.hid hrun
  have HOWN := Lib.hid hown
  have HO9 := Lib.hid ho9
  have HL9 := Lib.hid hl9
  clear h hX hd hu7 hz7 ho7 hl7 hrun hown hu9 ho9 hl9 hW7
  go_enter Try.func15, Try.ntmps15
  go_wp2_with (at_builtin; rw [← HW7.out]; refine wpList_run_append rfl _ _ 22 rfl _ _ rfl rfl 22 rfl HRUN.out ?_)
  obtain ⟨W10, hW10⟩ : ∃ W, W = W9.setCell ⟨w.heap.size + 1, 2, none⟩ (.slice B xs.length cb) := ⟨_, rfl⟩
  rw [← hW10]
  have hu10 : Up w W10 := by rw [hW10]; exact HU9.out.setCell _ (.inr (by simp)) _
  have hc10 : Chg (fun i => i = w.heap.size + 1) W9 W10 := by rw [hW10]; exact (Chg.refl (fun i => i = w.heap.size + 1) W9).setCell ⟨w.heap.size + 1, 2, none⟩ (.inl rfl) _
  have hown10 := own_chg HOWN.out hc10 (fun k hk hs => by have := own_ge HOWN.out k hk; omega)
  have hl10 : W10.heap[w.heap.size + 1]? = some (.cells #[.int .i64 f, .int .i64 t, .slice B xs.length cb] 29 (0, 0)) := by rw [hW10]; exact heap_setCell_same W9 (w.heap.size + 1) 2 _ _ _ HL9.out
  have hcall := send_step w W10 hu10 p lv ds ls sent HN.out hs0 hs1 hn a f t _ xs (DatB.slb (own_base hown10 (Nat.zero_le _))) hnx
  have HCALL := Lib.hid hcall
  have HOWN10 := Lib.hid hown10
  have HL10 := Lib.hid hl10
  have HU10 := Lib.hid hu10
  clear hu10 hc10 hown10 hl10 hcall hW10 b0 b1 b2 fz HL9 HOWN HRUN HW7 HO9 HU9
  refine HCALL.out.mono ?_
  rintro e W11 ⟨rfl, lv1, ds1, hn1, hc1, hb1, hsep⟩
  have hout : ∀ i, w.heap.size ≤ i → ¬ (i = p ∨ lv.ownBlock = some i) := fun i hi hs => by
    rcases hs with hs | hs
    · have := (Array.getElem?_eq_some_iff.1 HN.out.obj).1; omega
    · have := own_lt HN.out.row i hs; omega
  have hl11 := hc1.heap HL10.out (hout _ (by omega))
  have hown11 := own_chg HOWN10.out hc1 (fun k hk => hout k (by have := own_ge HOWN10.out k hk; omega))
  have hlt11 : ∀ k, (Value.slice B xs.length cb).ownBlock = some k → k < W10.heap.size := fun k hk => own_lt HOWN10.out k hk
  have hcw : Chg (fun i => i = p ∨ lv.ownBlock = some i) w W11 := (HU10.out.mono (fun _ _ h => h.elim)).then hc1 (fun i hi => .inl hi)
  obtain ⟨r, hr⟩ : ∃ r : Int, r = (if (whoI f && whoI t) = true then 0 else 11) := ⟨_, rfl⟩
  rw [← hr]
  have hrf := ref_any W11 f t _ xs (DatB.slb (own_base hown11 (Nat.zero_le _)))
  unfold refV at hrf
  dsimp only at hrf
  obtain ⟨st, hst⟩ : ∃ s, strOfNums xs = s := ⟨_, rfl⟩
  rw [hst] at hrf
  have b0 := cell_of_row W11 (w.heap.size + 1) 0 _ _ _ hl11
  have b1 := cell_of_row W11 (w.heap.size + 1) 1 _ _ _ hl11
  have b2 := cell_of_row W11 (w.heap.size + 1) 2 _ _ _ hl11
  have HR := Lib.hid hr
  have HST := Lib.hid hst
  have HRF := Lib.hid hrf
  have HN1 := Lib.hid hn1
  have HB1 := Lib.hid (show lv1.ownBlock = lv.ownBlock ∨ ∃ g, lv1.ownBlock = some g ∧ w.heap.size ≤ g from hb1.imp id (fun ⟨g, e1, e2⟩ => ⟨g, e1, Nat.le_trans HU10.out.size e2⟩))
  have HSEP := Lib.hid hsep
  have HL11 := Lib.hid hl11
  have HOWN11 := Lib.hid hown11
  have HLT := Lib.hid hlt11
  have HCW := Lib.hid hcw
  have HOUT := Lib.hid hout
  have HG10a := Lib.hid hc1.size
  clear hn1 hc1 hb1 hsep hl11 hown11 hlt11 hcw hr hst hrf HL10 HOWN10 HCALL hout
  go_wp2_with fail
  refine HRF.out.mono ?_
  rintro e W12 ⟨rfl, hb12⟩
  have hu12 := up_below hb12
  have hl12 := hu12.heap HL11.out (fun h => h)
  have c0 := cell_of_row W12 (w.heap.size + 1) 0 _ _ _ hl12
  have c1 := cell_of_row W12 (w.heap.size + 1) 1 _ _ _ hl12
  have c2 := cell_of_row W12 (w.heap.size + 1) 2 _ _ _ hl12
  have HU12 := Lib.hid hu12
  have HL12 := Lib.hid hl12
  have hu13 : Up W12 (W12.alloc (.cells #[.int .i64 f, .int .i64 t, .string st] 49)) := (Chg.refl _ _).alloc _
  have k2 := hu13.cell c2 (fun h => h)
  clear hb12 hu12 hl12 b0 b1 b2 hu13
  go_wp2_with fail
  obtain ⟨W13, hW13⟩ : ∃ W, W = W12.alloc (.cells #[.int .i64 f, .int .i64 t, .string st] 49) := ⟨_, rfl⟩
  obtain ⟨g13, hg13⟩ : ∃ g, g = W12.heap.size := ⟨_, rfl⟩
  rw [← hW13, ← hg13]
  have hy13 : W13.heap[g13]? = some (.cells #[.int .i64 f, .int .i64 t, .string st] 49 (0, 0)) := by rw [hW13, hg13]; exact heap_alloc_last _ _
  have hu13 : Up W11 W13 := by rw [hW13]; exact HU12.out.trans ((Chg.refl _ _).alloc _)
  have HY13 := Lib.hid hy13
  have HU13 := Lib.hid hu13
  have HG10 := Lib.hid HG10a.out
  have HG13 := Lib.hid (show W11.heap.size ≤ g13 by rw [hg13]; exact HU12.out.size)
  clear hy13 hu13 hW13 hg13 c0 c1 c2 k2 HU12 HL12 HRF
  go_loopw [51] (fun i wr => ∃ (j : Nat) (us : List Int), j ≤ xs.length ∧ us.length = xs.length ∧ i = .int .i64 j ∧ wr.ownsRow (w.heap.size + 1 + 1) 5 1 (.slice B xs.length cb) xs.length (u8s us) ∧ Chg (fun i => (Value.slice B xs.length cb).ownBlock = some i) W13 wr) (fun i _ => xs.length - (intOf i).toNat)
  case atStart => exact ⟨0, xs, by omega, rfl, rfl, own_chg HOWN11.out HU13.out (fun _ _ h => h), Chg.refl _ _⟩
  case round =>
    rename World => wo
    obtain ⟨j, us, hj, hus, rfl, hrow, hch⟩ := hrel
    have hne1 : ¬ (Value.slice B xs.length cb).ownBlock = some (w.heap.size + 1) := fun h => by have := own_ge HOWN11.out _ h; omega
    have hlo := hch.heap (HU13.out.heap HL11.out (fun h => h)) hne1
    have b2 := cell_of_row wo (w.heap.size + 1) 2 _ _ _ hlo
    by_cases hj2 : (j : Int) < xs.length
    · obtain ⟨gb, rfl⟩ : ∃ g, B = some ⟨g, 0, none⟩ := by
        rcases hrow.2 with ⟨_, hz⟩ | ⟨g, cap, cur, he, _⟩
        · omega
        · injection he with e1; exact ⟨g, e1⟩
      have lc := World.ownsRow.cells hrow rfl j _ (u8s_at (show j < us.length by omega))
      have fzj := World.ownsRow.frozenAt hrow j
      rw [addr_add, Nat.zero_add] at lc
      obtain ⟨z, hz⟩ : ∃ z, us.getD j 0 = z := ⟨_, rfl⟩
      rw [hz] at lc
      have HROW := Lib.hid hrow
      have HCH := Lib.hid hch
      clear hrow hch hlo hne1 hz
      go_wp2_with fail
      have hz2 : (z + 1) % 256 = (z + 1) % 256 := rfl
      obtain ⟨h1, h2⟩ := World.ownsRow.stored HROW.out j (.int .u8 ((z + 1) % 256))
      rw [u8s_set] at h1
      exact ⟨⟨j + 1, us.set j ((z + 1) % 256), by omega, by rw [List.length_set]; exact hus, by go_num, h1, HCH.out.trans ((Chg.of_grownBy h2).mono (fun i _ hi => hi.symm))⟩, by simp [intOf]; omega⟩
    · have hall : Chg (fun i => i = p ∨ lv.ownBlock = some i) w wo := (HCW.out.then HU13.out (fun i hi => hi.elim)).then hch (fun i hi => .inr (by have := own_ge HOWN11.out i hi; omega))
      have hxo := HX.out.net HN.out hall
      have hown : ∀ i, (Value.slice B xs.length cb).ownBlock = some i → w.heap.size + 1 + 1 ≤ i ∧ i < W10.heap.size := fun i hi => ⟨own_ge HOWN11.out i hi, HLT.out i hi⟩
      have hno : NetAt wo p lv1 ds1 (stepI ls 1 a f t xs) (sent + stepS 1 f t) := (HN1.out.up HU13.out).apart hch (fun hs => HOUT.out p (by have := (hown p hs).1; omega) (.inl rfl))
        (fun k hk hs => own_ne (HN1.out.up HU13.out).row (own_chg HOWN11.out HU13.out (fun _ _ h => h)) (by decide) k hk hs)
        (fun j k hj hk hs => by
          have h1 := hown k hs
          rcases HSEP.out j k hj hk with h2 | h2
          · omega
          · omega)
      have hgo : ¬ (Value.slice B xs.length cb).ownBlock = some g13 := fun h => by have := (hown g13 h).2; have := HG13.out; have := HG10.out; omega
      have hyo := hch.heap HY13.out hgo
      have y0 := cell_of_row wo g13 0 _ _ _ hyo
      have y1 := cell_of_row wo g13 1 _ _ _ hyo
      have y2 := cell_of_row wo g13 2 _ _ _ hyo
      have HALL := Lib.hid hall
      have HXO := Lib.hid hxo
      have HNO := Lib.hid hno
      obtain ⟨L, hL⟩ : ∃ L, L = stepI ls 1 a f t xs := ⟨_, rfl⟩
      obtain ⟨S, hS⟩ : ∃ S, S = sent + stepS 1 f t := ⟨_, rfl⟩
      rw [← hL, ← hS] at HNO ⊢
      have HL := Lib.hid hL
      have HS := Lib.hid hS
      clear hall hxo hno hown hgo hyo hch hlo hne1 b2 hrow hL hS HU13 HY13 HSEP HOWN11 HL11 HN1
      by_cases hw : (whoI f && whoI t) = true
      · have hwh : (0 ≤ f ∧ f ≤ 63) ∧ 0 ≤ t ∧ t ≤ 63 := by simpa [whoI] using hw
        obtain ⟨⟨hf0, hf1⟩, ht0, ht1⟩ := hwh
        obtain rfl : r = 0 := by have := HR.out; rw [if_pos hw] at this; exact this
        have HL2 := Lib.hid (show L = ls ++ [(f, t, xs)] by rw [HL.out]; unfold stepI; rw [if_pos rfl, if_pos hw])
        have hlen : ((ls.length : Int) == 1024) = false := by rw [beq_eq_false_iff_ne]; omega
        obtain ⟨W14, hW14⟩ : ∃ W, W = wo.alloc (.cells #[.int .i64 f, .int .i64 t, .string st] 49) := ⟨_, rfl⟩
        have hu14 : Up wo W14 := by rw [hW14]; exact (Chg.refl _ wo).alloc _
        have hx14 : XAt W14 0 (.slice Ax ls.length cx) ls := own_chg HXO.out hu14 (fun _ _ h => h)
        obtain ⟨B5, c5, W15, hrun, ho5, hc5, hb5⟩ := push_ref W14 0 (Nat.zero_le _) _ _ hx14 (f, t, xs) wo.heap.size (by rw [hW14, HST.out]; exact heap_alloc_last _ _) (by omega)
        rw [hW14] at hrun
        have HRUN := Lib.hid hrun
        have HO5 := Lib.hid ho5
        have HC5 := Lib.hid hc5
        have HB5 := Lib.hid (hb5.imp id (fun ⟨g, e1, e2⟩ => (⟨g, e1, Nat.le_trans HALL.out.size (Nat.le_trans hu14.size e2)⟩ : ∃ g, (Value.slice B5 (ls.length + 1) c5).ownBlock = some g ∧ w.heap.size ≤ g)))
        have HU14 := Lib.hid hu14
        have HX14 := Lib.hid hx14
        clear hrun ho5 hc5 hb5 hu14 hx14 hW14 hw
        go_wp2_with (first
          | refine wpList_oneR rfl (.tmp 92) rfl f t st (by rfl) ?_
          | (at_builtin; refine wpList_run_append rfl _ _ 34 rfl _ _ rfl rfl 34 rfl HRUN.out ?_))
        go_ret2
        have hno2 := (HNO.out.up HU14.out).ref HX14.out HC5.out
        rw [HL2.out, HS.out] at hno2
        rw [← HL.out, HL2.out]
        have e1 : (ls ++ [((f, t, xs) : Let)]).length = ls.length + 1 := by simp
        refine ⟨B5, c5, lv1, ds1, by rw [e1]; rfl, by rw [e1]; exact HO5.out, hno2, ?_, ob_of HB1.out, by rw [e1]; exact ob_of HB5.out⟩
        exact ((HALL.out.then HU14.out (fun i hi => hi.elim)).mono (fun i _ hi => (hi.imp id .inl : i = p ∨ lv.ownBlock = some i ∨ (Value.slice Ax ls.length cx).ownBlock = some i))).then HC5.out (fun i hi => .inl (.inr (.inr hi)))
      · have hw0 : (whoI f && whoI t) = false := by simpa using hw
        obtain rfl : r = 11 := by have := HR.out; rw [hw0] at this; exact this
        have HL2 := Lib.hid (show L = ls by rw [HL.out]; unfold stepI; rw [if_pos rfl, if_neg hw])
        have fin : StepPost p lv (.slice Ax ls.length cx) (stepI ls 1 a f t xs) (sent + stepS 1 f t) w (.returned (.tuple #[.slice Ax ls.length cx, .bool true])) wo := by
          have hno2 := HNO.out
          rw [HL2.out, HS.out] at hno2
          rw [← HL.out, HL2.out]
          exact ⟨Ax, cx, lv1, ds1, rfl, HXO.out, hno2, HALL.out.mono (fun i _ hi => hi.imp id .inl), ob_of HB1.out, fun _ h => .inl h⟩
        have FIN := Lib.hid fin
        have HW := Lib.hid hw0
        clear fin hw hw0
        by_cases hf0 : f < 0
        · go_wp2_with fail
          go_ret2
          exact FIN.out
        by_cases hf1 : 63 < f
        · go_wp2_with fail
          go_ret2
          exact FIN.out
        by_cases ht0 : t < 0
        · go_wp2_with fail
          go_ret2
          exact FIN.out
        have ht1 : 63 < t := by
          have := HW.out
          simp [whoI] at this
          omega
        go_wp2_with fail
        go_ret2
        exact FIN.out
set_option maxRecDepth 100000 in
set_option maxHeartbeats 4000000 in
theorem step1c (w : World) (p : Nat) (lv : Value) (ds : List Value) (ls : List Let) (sent : Int) (h : NetAt w p lv ds ls sent) (hs0 : 0 ≤ sent) (hs1 : sent ≤ 1000000) (hn : ls.length < 1024) (xv : Value) (hX : XAt w 0 xv ls) (a f t : Int) (d : Value) (xs : List Int) (hd : SlB w d xs) (hnx : xs.length ≤ 1000) (ha0 : 0 ≤ a) (ha : ¬ a < (ls.length : Int)) :
    Calls Try.prog 15 #[.pointer (some ⟨p, 0, none⟩), xv, .agg #[.int .i64 1, .int .i64 a, .int .i64 f, .int .i64 t, d]] w (StepPost p lv xv (stepI ls 1 a f t xs) (sent + stepS 1 f t) w) := by
  obtain ⟨Ax, cx, rfl⟩ := own_shape hX
  obtain ⟨A, c, rfl, hl1, hl2⟩ := hd.shape
  obtain ⟨W7, hW7⟩ : ∃ W, W = (w.alloc (.cells #[.int .i64 1, .int .i64 a, .int .i64 f, .int .i64 t, .slice A xs.length c] 36)).alloc (.cells #[.int .i64 f, .int .i64 t, .slice A xs.length c] 29) := ⟨_, rfl⟩
  have hu7 : Up w W7 := by rw [hW7]; exact ((Chg.refl _ w).alloc _).alloc _
  have hz7 : W7.heap.size = w.heap.size + 1 + 1 := by rw [hW7]; simp
  have ho7 : W7.heap[w.heap.size]? = some (.cells #[.int .i64 1, .int .i64 a, .int .i64 f, .int .i64 t, .slice A xs.length c] 36 (0, 0)) := by rw [hW7]; exact ((Chg.refl (fun _ => False) _).alloc _).heap (heap_alloc_last w _) (fun h => h)
  have hl7 : W7.heap[w.heap.size + 1]? = some (.cells #[.int .i64 f, .int .i64 t, .slice A xs.length c] 29 (0, 0)) := by rw [hW7]; have := heap_alloc_last (w.alloc (.cells #[.int .i64 1, .int .i64 a, .int .i64 f, .int .i64 t, .slice A xs.length c] 36)) (.cells #[.int .i64 f, .int .i64 t, .slice A xs.length c] 29); simpa using this
  obtain ⟨B, cb, W9, hrun, hown, hu9⟩ := app_empty W7 _ xs (Src.chg hd hu7 (fun _ _ _ h => h) (by decide)) (by omega)
  rw [hz7] at hrun hown
  have ho9 := hu9.heap ho7 (fun h => h)
  have hl9 := hu9.heap hl7 (fun h => h)
  have b0 := cell_of_row W9 (w.heap.size + 1) 0 _ _ _ hl9
  have b1 := cell_of_row W9 (w.heap.size + 1) 1 _ _ _ hl9
  have b2 := cell_of_row W9 (w.heap.size + 1) 2 _ _ _ hl9
  have fz := frozen_of_row W9 (w.heap.size + 1) 2 _ _ hl9
  have HN := Lib.hid h
  have HX := Lib.hid hX
  have HU9 := Lib.hid (hu7.trans hu9)
  have HW7 := Lib.hid hW7
  have HRUN := Lib.hid hrun
  have HOWN := Lib.hid hown
  have HO9 := Lib.hid ho9
  have HL9 := Lib.hid hl9
  clear h hX hd hu7 hz7 ho7 hl7 hrun hown hu9 ho9 hl9 hW7
  go_enter Try.func15, Try.ntmps15
  go_wp2_with (at_builtin; rw [← HW7.out]; refine wpList_run_append rfl _ _ 22 rfl _ _ rfl rfl 22 rfl HRUN.out ?_)
  obtain ⟨W10, hW10⟩ : ∃ W, W = W9.setCell ⟨w.heap.size + 1, 2, none⟩ (.slice B xs.length cb) := ⟨_, rfl⟩
  rw [← hW10]
  have hu10 : Up w W10 := by rw [hW10]; exact HU9.out.setCell _ (.inr (by simp)) _
  have hc10 : Chg (fun i => i = w.heap.size + 1) W9 W10 := by rw [hW10]; exact (Chg.refl (fun i => i = w.heap.size + 1) W9).setCell ⟨w.heap.size + 1, 2, none⟩ (.inl rfl) _
  have hown10 := own_chg HOWN.out hc10 (fun k hk hs => by have := own_ge HOWN.out k hk; omega)
  have hl10 : W10.heap[w.heap.size + 1]? = some (.cells #[.int .i64 f, .int .i64 t, .slice B xs.length cb] 29 (0, 0)) := by rw [hW10]; exact heap_setCell_same W9 (w.heap.size + 1) 2 _ _ _ HL9.out
  have hcall := send_step w W10 hu10 p lv ds ls sent HN.out hs0 hs1 hn a f t _ xs (DatB.slb (own_base hown10 (Nat.zero_le _))) hnx
  have HCALL := Lib.hid hcall
  have HOWN10 := Lib.hid hown10
  have HL10 := Lib.hid hl10
  have HU10 := Lib.hid hu10
  clear hu10 hc10 hown10 hl10 hcall hW10 b0 b1 b2 fz HL9 HOWN HRUN HW7 HO9 HU9
  refine HCALL.out.mono ?_
  rintro e W11 ⟨rfl, lv1, ds1, hn1, hc1, hb1, hsep⟩
  have hout : ∀ i, w.heap.size ≤ i → ¬ (i = p ∨ lv.ownBlock = some i) := fun i hi hs => by
    rcases hs with hs | hs
    · have := (Array.getElem?_eq_some_iff.1 HN.out.obj).1; omega
    · have := own_lt HN.out.row i hs; omega
  have hl11 := hc1.heap HL10.out (hout _ (by omega))
  have hown11 := own_chg HOWN10.out hc1 (fun k hk => hout k (by have := own_ge HOWN10.out k hk; omega))
  have hlt11 : ∀ k, (Value.slice B xs.length cb).ownBlock = some k → k < W10.heap.size := fun k hk => own_lt HOWN10.out k hk
  have hcw : Chg (fun i => i = p ∨ lv.ownBlock = some i) w W11 := (HU10.out.mono (fun _ _ h => h.elim)).then hc1 (fun i hi => .inl hi)
  obtain ⟨r, hr⟩ : ∃ r : Int, r = (if (whoI f && whoI t) = true then 0 else 11) := ⟨_, rfl⟩
  rw [← hr]
  have hrf := ref_any W11 f t _ xs (DatB.slb (own_base hown11 (Nat.zero_le _)))
  unfold refV at hrf
  dsimp only at hrf
  obtain ⟨st, hst⟩ : ∃ s, strOfNums xs = s := ⟨_, rfl⟩
  rw [hst] at hrf
  have b0 := cell_of_row W11 (w.heap.size + 1) 0 _ _ _ hl11
  have b1 := cell_of_row W11 (w.heap.size + 1) 1 _ _ _ hl11
  have b2 := cell_of_row W11 (w.heap.size + 1) 2 _ _ _ hl11
  have HR := Lib.hid hr
  have HST := Lib.hid hst
  have HRF := Lib.hid hrf
  have HN1 := Lib.hid hn1
  have HB1 := Lib.hid (show lv1.ownBlock = lv.ownBlock ∨ ∃ g, lv1.ownBlock = some g ∧ w.heap.size ≤ g from hb1.imp id (fun ⟨g, e1, e2⟩ => ⟨g, e1, Nat.le_trans HU10.out.size e2⟩))
  have HSEP := Lib.hid hsep
  have HL11 := Lib.hid hl11
  have HOWN11 := Lib.hid hown11
  have HLT := Lib.hid hlt11
  have HCW := Lib.hid hcw
  have HOUT := Lib.hid hout
  have HG10a := Lib.hid hc1.size
  clear hn1 hc1 hb1 hsep hl11 hown11 hlt11 hcw hr hst hrf HL10 HOWN10 HCALL hout
  go_wp2_with fail
  refine HRF.out.mono ?_
  rintro e W12 ⟨rfl, hb12⟩
  have hu12 := up_below hb12
  have hl12 := hu12.heap HL11.out (fun h => h)
  have c0 := cell_of_row W12 (w.heap.size + 1) 0 _ _ _ hl12
  have c1 := cell_of_row W12 (w.heap.size + 1) 1 _ _ _ hl12
  have c2 := cell_of_row W12 (w.heap.size + 1) 2 _ _ _ hl12
  have HU12 := Lib.hid hu12
  have HL12 := Lib.hid hl12
  have hu13 : Up W12 (W12.alloc (.cells #[.int .i64 f, .int .i64 t, .string st] 49)) := (Chg.refl _ _).alloc _
  have k2 := hu13.cell c2 (fun h => h)
  clear hb12 hu12 hl12 b0 b1 b2 hu13
  go_wp2_with fail
  obtain ⟨W13, hW13⟩ : ∃ W, W = W12.alloc (.cells #[.int .i64 f, .int .i64 t, .string st] 49) := ⟨_, rfl⟩
  obtain ⟨g13, hg13⟩ : ∃ g, g = W12.heap.size := ⟨_, rfl⟩
  rw [← hW13, ← hg13]
  have hy13 : W13.heap[g13]? = some (.cells #[.int .i64 f, .int .i64 t, .string st] 49 (0, 0)) := by rw [hW13, hg13]; exact heap_alloc_last _ _
  have hu13 : Up W11 W13 := by rw [hW13]; exact HU12.out.trans ((Chg.refl _ _).alloc _)
  have HY13 := Lib.hid hy13
  have HU13 := Lib.hid hu13
  have HG10 := Lib.hid HG10a.out
  have HG13 := Lib.hid (show W11.heap.size ≤ g13 by rw [hg13]; exact HU12.out.size)
  clear hy13 hu13 hW13 hg13 c0 c1 c2 k2 HU12 HL12 HRF
  go_loopw [51] (fun i wr => ∃ (j : Nat) (us : List Int), j ≤ xs.length ∧ us.length = xs.length ∧ i = .int .i64 j ∧ wr.ownsRow (w.heap.size + 1 + 1) 5 1 (.slice B xs.length cb) xs.length (u8s us) ∧ Chg (fun i => (Value.slice B xs.length cb).ownBlock = some i) W13 wr) (fun i _ => xs.length - (intOf i).toNat)
  case atStart => exact ⟨0, xs, by omega, rfl, rfl, own_chg HOWN11.out HU13.out (fun _ _ h => h), Chg.refl _ _⟩
  case round =>
    rename World => wo
    obtain ⟨j, us, hj, hus, rfl, hrow, hch⟩ := hrel
    have hne1 : ¬ (Value.slice B xs.length cb).ownBlock = some (w.heap.size + 1) := fun h => by have := own_ge HOWN11.out _ h; omega
    have hlo := hch.heap (HU13.out.heap HL11.out (fun h => h)) hne1
    have b2 := cell_of_row wo (w.heap.size + 1) 2 _ _ _ hlo
    by_cases hj2 : (j : Int) < xs.length
    · obtain ⟨gb, rfl⟩ : ∃ g, B = some ⟨g, 0, none⟩ := by
        rcases hrow.2 with ⟨_, hz⟩ | ⟨g, cap, cur, he, _⟩
        · omega
        · injection he with e1; exact ⟨g, e1⟩
      have lc := World.ownsRow.cells hrow rfl j _ (u8s_at (show j < us.length by omega))
      have fzj := World.ownsRow.frozenAt hrow j
      rw [addr_add, Nat.zero_add] at lc
      obtain ⟨z, hz⟩ : ∃ z, us.getD j 0 = z := ⟨_, rfl⟩
      rw [hz] at lc
      have HROW := Lib.hid hrow
      have HCH := Lib.hid hch
      clear hrow hch hlo hne1 hz
      go_wp2_with fail
      have hz2 : (z + 1) % 256 = (z + 1) % 256 := rfl
      obtain ⟨h1, h2⟩ := World.ownsRow.stored HROW.out j (.int .u8 ((z + 1) % 256))
      rw [u8s_set] at h1
      exact ⟨⟨j + 1, us.set j ((z + 1) % 256), by omega, by rw [List.length_set]; exact hus, by go_num, h1, HCH.out.trans ((Chg.of_grownBy h2).mono (fun i _ hi => hi.symm))⟩, by simp [intOf]; omega⟩
    · have hall : Chg (fun i => i = p ∨ lv.ownBlock = some i) w wo := (HCW.out.then HU13.out (fun i hi => hi.elim)).then hch (fun i hi => .inr (by have := own_ge HOWN11.out i hi; omega))
      have hxo := HX.out.net HN.out hall
      have hown : ∀ i, (Value.slice B xs.length cb).ownBlock = some i → w.heap.size + 1 + 1 ≤ i ∧ i < W10.heap.size := fun i hi => ⟨own_ge HOWN11.out i hi, HLT.out i hi⟩
      have hno : NetAt wo p lv1 ds1 (stepI ls 1 a f t xs) (sent + stepS 1 f t) := (HN1.out.up HU13.out).apart hch (fun hs => HOUT.out p (by have := (hown p hs).1; omega) (.inl rfl))
        (fun k hk hs => own_ne (HN1.out.up HU13.out).row (own_chg HOWN11.out HU13.out (fun _ _ h => h)) (by decide) k hk hs)
        (fun j k hj hk hs => by
          have h1 := hown k hs
          rcases HSEP.out j k hj hk with h2 | h2
          · omega
          · omega)
      have hgo : ¬ (Value.slice B xs.length cb).ownBlock = some g13 := fun h => by have := (hown g13 h).2; have := HG13.out; have := HG10.out; omega
      have hyo := hch.heap HY13.out hgo
      have y0 := cell_of_row wo g13 0 _ _ _ hyo
      have y1 := cell_of_row wo g13 1 _ _ _ hyo
      have y2 := cell_of_row wo g13 2 _ _ _ hyo
      have HALL := Lib.hid hall
      have HXO := Lib.hid hxo
      have HNO := Lib.hid hno
      obtain ⟨L, hL⟩ : ∃ L, L = stepI ls 1 a f t xs := ⟨_, rfl⟩
      obtain ⟨S, hS⟩ : ∃ S, S = sent + stepS 1 f t := ⟨_, rfl⟩
      rw [← hL, ← hS] at HNO ⊢
      have HL := Lib.hid hL
      have HS := Lib.hid hS
      clear hall hxo hno hown hgo hyo hch hlo hne1 b2 hrow hL hS HU13 HY13 HSEP HOWN11 HL11 HN1
      by_cases hw : (whoI f && whoI t) = true
      · have hwh : (0 ≤ f ∧ f ≤ 63) ∧ 0 ≤ t ∧ t ≤ 63 := by simpa [whoI] using hw
        obtain ⟨⟨hf0, hf1⟩, ht0, ht1⟩ := hwh
        obtain rfl : r = 0 := by have := HR.out; rw [if_pos hw] at this; exact this
        have HL2 := Lib.hid (show L = ls ++ [(f, t, xs)] by rw [HL.out]; unfold stepI; rw [if_pos rfl, if_pos hw])
        have hlen : ((ls.length : Int) == 1024) = false := by rw [beq_eq_false_iff_ne]; omega
        obtain ⟨W14, hW14⟩ : ∃ W, W = wo.alloc (.cells #[.int .i64 f, .int .i64 t, .string st] 49) := ⟨_, rfl⟩
        have hu14 : Up wo W14 := by rw [hW14]; exact (Chg.refl _ wo).alloc _
        have hx14 : XAt W14 0 (.slice Ax ls.length cx) ls := own_chg HXO.out hu14 (fun _ _ h => h)
        obtain ⟨B5, c5, W15, hrun, ho5, hc5, hb5⟩ := push_ref W14 0 (Nat.zero_le _) _ _ hx14 (f, t, xs) wo.heap.size (by rw [hW14, HST.out]; exact heap_alloc_last _ _) (by omega)
        rw [hW14] at hrun
        have HRUN := Lib.hid hrun
        have HO5 := Lib.hid ho5
        have HC5 := Lib.hid hc5
        have HB5 := Lib.hid (hb5.imp id (fun ⟨g, e1, e2⟩ => (⟨g, e1, Nat.le_trans HALL.out.size (Nat.le_trans hu14.size e2)⟩ : ∃ g, (Value.slice B5 (ls.length + 1) c5).ownBlock = some g ∧ w.heap.size ≤ g)))
        have HU14 := Lib.hid hu14
        have HX14 := Lib.hid hx14
        clear hrun ho5 hc5 hb5 hu14 hx14 hW14 hw
        go_wp2_with (first
          | refine wpList_oneR rfl (.tmp 92) rfl f t st (by rfl) ?_
          | (at_builtin; refine wpList_run_append rfl _ _ 34 rfl _ _ rfl rfl 34 rfl HRUN.out ?_))
        go_ret2
        have hno2 := (HNO.out.up HU14.out).ref HX14.out HC5.out
        rw [HL2.out, HS.out] at hno2
        rw [← HL.out, HL2.out]
        have e1 : (ls ++ [((f, t, xs) : Let)]).length = ls.length + 1 := by simp
        refine ⟨B5, c5, lv1, ds1, by rw [e1]; rfl, by rw [e1]; exact HO5.out, hno2, ?_, ob_of HB1.out, by rw [e1]; exact ob_of HB5.out⟩
        exact ((HALL.out.then HU14.out (fun i hi => hi.elim)).mono (fun i _ hi => (hi.imp id .inl : i = p ∨ lv.ownBlock = some i ∨ (Value.slice Ax ls.length cx).ownBlock = some i))).then HC5.out (fun i hi => .inl (.inr (.inr hi)))
      · have hw0 : (whoI f && whoI t) = false := by simpa using hw
        obtain rfl : r = 11 := by have := HR.out; rw [hw0] at this; exact this
        have HL2 := Lib.hid (show L = ls by rw [HL.out]; unfold stepI; rw [if_pos rfl, if_neg hw])
        have fin : StepPost p lv (.slice Ax ls.length cx) (stepI ls 1 a f t xs) (sent + stepS 1 f t) w (.returned (.tuple #[.slice Ax ls.length cx, .bool true])) wo := by
          have hno2 := HNO.out
          rw [HL2.out, HS.out] at hno2
          rw [← HL.out, HL2.out]
          exact ⟨Ax, cx, lv1, ds1, rfl, HXO.out, hno2, HALL.out.mono (fun i _ hi => hi.imp id .inl), ob_of HB1.out, fun _ h => .inl h⟩
        have FIN := Lib.hid fin
        have HW := Lib.hid hw0
        clear fin hw hw0
        by_cases hf0 : f < 0
        · go_wp2_with fail
          go_ret2
          exact FIN.out
        by_cases hf1 : 63 < f
        · go_wp2_with fail
          go_ret2
          exact FIN.out
        by_cases ht0 : t < 0
        · go_wp2_with fail
          go_ret2
          exact FIN.out
        have ht1 : 63 < t := by
          have := HW.out
          simp [whoI] at this
          omega
        go_wp2_with fail
        go_ret2
        exact FIN.out
theorem step1_any (w : World) (p : Nat) (lv : Value) (ds : List Value) (ls : List Let) (sent : Int) (h : NetAt w p lv ds ls sent) (hs0 : 0 ≤ sent) (hs1 : sent ≤ 1000000) (hn : ls.length < 1024) (xv : Value) (hX : XAt w 0 xv ls) (a f t : Int) (d : Value) (xs : List Int) (hd : SlB w d xs) (hnx : xs.length ≤ 1000) :
    Calls Try.prog 15 #[.pointer (some ⟨p, 0, none⟩), xv, .agg #[.int .i64 1, .int .i64 a, .int .i64 f, .int .i64 t, d]] w (StepPost p lv xv (stepI ls 1 a f t xs) (sent + stepS 1 f t) w) := by
  by_cases ha : a < 0
  · exact step1a w p lv ds ls sent h hs0 hs1 hn xv hX a f t d xs hd hnx ha
  · by_cases hb : a < ls.length
    · exact step1b w p lv ds ls sent h hs0 hs1 hn xv hX a f t d xs hd hnx (by omega) hb
    · exact step1c w p lv ds ls sent h hs0 hs1 hn xv hX a f t d xs hd hnx (by omega) (by omega)
end Go.Proofs.Ytofmblkmfbioiaa
