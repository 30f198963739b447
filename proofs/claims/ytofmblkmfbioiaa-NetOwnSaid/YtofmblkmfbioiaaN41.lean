/-
  The law 'NetOwn', walked.
-/
import Derived.Test.YtofmblkmfbioiaaN40
namespace Go.Proofs.Ytofmblkmfbioiaa
open Go.RowKit
set_option maxRecDepth 100000 in
set_option maxHeartbeats 4000000 in
theorem netOwn_any (w : World) (v1 : Value) (os : List OpI) (ds1 : List Value) (h1 : OpsAt w v1 os ds1) : Calls Try.prog 5 #[v1] w (TruePost w) := by
  obtain ⟨A1, c1, rfl, hl1, hm1⟩ := h1.shape
  have HO1 := Lib.hid h1
  clear h1
  have hn1 := net_new w
  obtain ⟨W1, hW1⟩ : ∃ W1, W1 = w.alloc (.cells #[.slice none 0 0, .int .i64 0] 57) := ⟨_, rfl⟩
  rw [← hW1] at hn1
  have hu1 : Up w W1 := by rw [hW1]; exact (Chg.refl _ w).alloc _
  have hz1 : W1.heap.size = w.heap.size + 1 := by rw [hW1]; simp
  have hn2 := net_new W1
  obtain ⟨W2, hW2⟩ : ∃ W, W = W1.alloc (.cells #[.slice none 0 0, .int .i64 0] 57) := ⟨_, rfl⟩
  rw [← hW2] at hn2
  have hu2 : Up W1 W2 := by rw [hW2]; exact (Chg.refl _ W1).alloc _
  obtain ⟨p, hp⟩ : ∃ p, p = w.heap.size := ⟨_, rfl⟩
  obtain ⟨q, hq⟩ : ∃ q, q = W1.heap.size := ⟨_, rfl⟩
  rw [← hp] at hn1
  rw [← hq] at hn2
  have HT0 := Lib.hid (show Twain w p q [] [] 0 0 (.slice none 0 0) (.slice none 0 0) (.slice none 0 0) W2 from ⟨⟨[], hn1.up hu2⟩, ⟨[], hn2⟩, World.ownsRow_nil _ _ _ _, (hu1.trans hu2).mono (fun _ _ h => h.elim), fun g hg => by simp [Value.ownBlock] at hg, fun g hg => by simp [Value.ownBlock] at hg, fun g hg => by simp [Value.ownBlock] at hg, fun g hg => by simp [Value.ownBlock] at hg⟩)
  have HU2 := Lib.hid (hu1.trans hu2)
  have HP := Lib.hid hp
  have HQ := Lib.hid hq
  have HPQ := Lib.hid (show p ≠ q ∧ w.heap.size ≤ p ∧ w.heap.size ≤ q by omega)
  have HW1 := Lib.hid hW1
  have HW2 := Lib.hid hW2
  have HNEW1 := Lib.hid (new_any w)
  have HNEW2 := Lib.hid (new_any W1)
  clear hn1 hn2 hu1 hu2 hW1 hW2 hp hq hz1
  go_enter Try.func5, Try.ntmps5
  by_cases hbad : (30 : Int) < os.length
  · go_wp2_with fail
    refine HNEW1.out.mono ?_
    rintro e W0 ⟨rfl, rfl⟩
    rw [← HW1.out, ← HP.out]
    go_wp2_with fail
    refine HNEW2.out.mono ?_
    rintro e W0 ⟨rfl, rfl⟩
    rw [← HW2.out, ← HQ.out]
    have HAW := Lib.hid (awake_any W2)
    go_wp2_with fail
    refine HAW.out.mono ?_
    rintro e W3 ⟨rfl, hb3⟩
    have HB3 := Lib.hid hb3
    clear hb3
    go_wp2_with fail
    go_ret
    exact ⟨rfl, (HU2.out.below_none (fun _ _ h => h)).trans (HB3.out.mono HU2.out.size)⟩
  · have hob : os.length ≤ 30 := by omega
    go_wp2_with fail
    refine HNEW1.out.mono ?_
    rintro e W0 ⟨rfl, rfl⟩
    rw [← HW1.out, ← HP.out]
    go_wp2_with fail
    refine HNEW2.out.mono ?_
    rintro e W0 ⟨rfl, rfl⟩
    rw [← HW2.out, ← HQ.out]
    have HLL := Lib.hid (show ([] : List Let).length ≤ 200 by decide)
    have HFW := Lib.hid Few.nil
    have HSS := Lib.hid (show (0 : Int) ≤ 0 ∧ (0 : Int) ≤ 200 by omega)
    go_wp2_with fail
    go_loopw [5, 35] (fun xv i wr => ∃ (k : Nat) (lv lm : Value) (ms : List Let) (sm : Int), k ≤ os.length ∧ i = .int .i64 k ∧ Twain w p q (playI [] (os.take k)) ms (sentI' 0 (os.take k)) sm lv lm xv wr ∧ (∀ j, j < k → (os.getD j default).dat.length ≤ 100) ∧ ms.length ≤ k ∧ Few ms ∧ 0 ≤ sm ∧ sm ≤ k) (fun _ i _ => os.length - (intOf i).toNat)
    case atStart => exact ⟨0, _, _, [], 0, by omega, rfl, by rw [List.take_zero]; exact HT0.out, fun j hj => by omega, Nat.le_refl _, Few.nil, by omega, by omega⟩
    case round =>
      rename World => wr
      obtain ⟨k, lv, lm, ms, sm, hk, rfl, htw, hall, hms, hfm, hsm0, hsm1⟩ := hrel
      by_cases hk2 : (k : Int) < os.length
      · obtain ⟨b', off, rfl, a0, a1, a2, a3, a4, hsl, hdl⟩ := HO1.out.row htw.chg k (by omega)
        obtain ⟨o, ho⟩ : ∃ o, os.getD k default = o := ⟨_, rfl⟩
        rw [ho] at a0 a1 a2 a3 hsl hdl
        obtain ⟨Ad, cd, hd, _⟩ := hsl.shape
        rw [hd] at a4 hsl hdl
        obtain ⟨wq, hwq⟩ : ∃ W, W = wr.alloc (.cells #[.int .i64 o.kind, .int .i64 o.at_, .int .i64 o.frm, .int .i64 o.to_, .slice Ad o.dat.length cd] 36) := ⟨_, rfl⟩
        have huq : Up wr wq := by rw [hwq]; exact (Chg.refl _ wr).alloc _
        obtain ⟨g7, hg7⟩ : ∃ g, g = wr.heap.size := ⟨_, rfl⟩
        have h7q : wq.heap[g7]? = some (.cells #[.int .i64 o.kind, .int .i64 o.at_, .int .i64 o.frm, .int .i64 o.to_, .slice Ad o.dat.length cd] 36 (0, 0)) := by rw [hwq, hg7]; exact heap_alloc_last _ _
        have HWQ := Lib.hid hwq
        have HTQ := Lib.hid (htw.up huq)
        by_cases hx : (100 : Int) < o.dat.length
        · have HAW := Lib.hid (awake_any wq)
          clear htw hsl hdl hd ho hwq huq hall hg7 h7q hms hfm hsm0 hsm1
          go_wp2_with fail
          rw [← HWQ.out]
          refine HAW.out.mono ?_
          rintro e W4 ⟨rfl, hb4⟩
          have HB4 := Lib.hid hb4
          clear hb4
          go_wp2_with fail
          go_ret
          exact ⟨rfl, (HTQ.out.chg.below (Nat.le_refl _) (fun i hi => hi)).trans (HB4.out.mono HTQ.out.chg.size)⟩
        · have hall2 : ∀ j, j < k + 1 → (os.getD j default).dat.length ≤ 100 := fun j hj => by
            by_cases hjk : j = k
            · subst hjk; rw [ho]; omega
            · exact hall j (by omega)
          have hok := play_ok (os := os.take (k + 1)) HLL.out HFW.out HSS.out.1 HSS.out.2 (by rw [List.length_take]; omega) (fun j hj => by rw [takeO_getD os (k + 1) j hj]; have := hall2 j (by rw [List.length_take] at hj; omega); omega) k
          have hok1 := play_ok (os := os.take (k + 1)) HLL.out HFW.out HSS.out.1 HSS.out.2 (by rw [List.length_take]; omega) (fun j hj => by rw [takeO_getD os (k + 1) j hj]; have := hall2 j (by rw [List.length_take] at hj; omega); omega) (k + 1)
          rw [show (os.take (k + 1)).take k = os.take k by rw [List.take_take, Nat.min_eq_left (by omega)]] at hok
          rw [show (os.take (k + 1)).take (k + 1) = os.take (k + 1) by rw [List.take_take, Nat.min_self]] at hok1
          have hlb1 := playI_len [] (os.take (k + 1))
          rw [List.length_nil, List.length_take] at hlb1
          have hst1 := HTQ.out.one HPQ.out.1 HPQ.out.2.1 hok.1 hok.2.1 hok.2.2.1 hok.2.2.2 o _ (Src.chg hsl huq (fun _ _ _ h => h) (by decide)) (by omega) hdl
          rw [show stepO (playI [] (os.take k)) o = playI [] (os.take (k + 1)) by rw [playI_take [] os k (by omega), ho], show sentO (sentI' 0 (os.take k)) o = sentI' 0 (os.take (k + 1)) by rw [sentI_take 0 os k (by omega), ho]] at hst1
          have hms2 := stepI_len ms o.kind o.at_ o.frm o.to_ o.dat
          have hss2 := stepS_le o.kind o.frm o.to_
          obtain ⟨L1, hL1⟩ : ∃ L, playI [] (os.take (k + 1)) = L := ⟨_, rfl⟩
          obtain ⟨s1, hs1⟩ : ∃ s, sentI' 0 (os.take (k + 1)) = s := ⟨_, rfl⟩
          rw [hL1] at hst1 hok1 hlb1
          rw [hs1] at hst1 hok1
          have HSL := Lib.hid (show OpsAt w _ os ds1 ∧ k < os.length from ⟨HO1.out, by omega⟩)
          have HST1 := Lib.hid hst1
          have HALL2 := Lib.hid hall2
          have HFM := Lib.hid hfm
          have HFM2 := Lib.hid (hfm.step o.kind o.at_ o.frm o.to_ o.dat (by omega))
          have HB1 := Lib.hid hok1
          have HL1 := Lib.hid hL1
          have HS1 := Lib.hid hs1
          have H7Q := Lib.hid h7q
          have HG7 := Lib.hid hg7
          have HDL := Lib.hid hdl
          have HOE := Lib.hid ho
          have HDE := Lib.hid hd
          have HMS := Lib.hid (show ms.length ≤ k ∧ 0 ≤ sm ∧ sm ≤ k ∧ (stepI ms o.kind o.at_ o.frm o.to_ o.dat).length ≤ ms.length + 1 ∧ 0 ≤ stepS o.kind o.frm o.to_ ∧ stepS o.kind o.frm o.to_ ≤ 1 from ⟨hms, hsm0, hsm1, hms2, hss2.1, hss2.2⟩)
          clear htw hsl hdl hd ho hwq huq hall hall2 hok hok1 hst1 hL1 hs1 hg7 h7q hms hfm hsm0 hsm1 hms2 hss2
          go_wp2_with fail
          rw [← HWQ.out]
          refine HST1.out.mono ?_
          rintro e W5 ⟨B5, c5, lv5, rfl, htw5, hk5⟩
          have h75 := hk5 _ _ _ _ H7Q.out (by decide) (by decide) (by decide)
          have q0 := cell_of_row W5 g7 0 _ _ _ h75
          have q1 := cell_of_row W5 g7 1 _ _ _ h75
          have q2 := cell_of_row W5 g7 2 _ _ _ h75
          have q3 := cell_of_row W5 g7 3 _ _ _ h75
          have q4 := cell_of_row W5 g7 4 _ _ _ h75
          rw [HG7.out] at q0 q1 q2 q3 q4
          have hsl5 : SlB W5 (.slice Ad o.dat.length cd) o.dat := by
            obtain ⟨_, _, _, _, _, _, _, _, hs, _⟩ := HO1.out.row htw5.chg k HSL.out.2
            rw [HOE.out, HDE.out] at hs
            exact hs
          have hst2 := htw5.two HPQ.out.1 HPQ.out.2.2 HB1.out.1 (by have := HMS.out; omega) HFM.out HMS.out.2.1 (by have := HMS.out; omega) o _ hsl5 (by omega) HDL.out
          have HST2 := Lib.hid hst2
          have H75 := Lib.hid h75
          clear htw5 hk5 h75 hsl5 hst2 a0 a1 a2 a3 a4
          go_wp2_with fail
          refine HST2.out.mono ?_
          rintro e W6 ⟨v6, b6, lm6, rfl, htw6, hk6⟩
          obtain ⟨⟨dn6, hn6⟩, ⟨dm6, hm6⟩, hx6, _, _, _, _, _⟩ := id htw6
          have HALL := Lib.hid (all_any W6 p lv5 dn6 L1 s1 hn6 (by have := HB1.out.1; omega) (fun j hj => HB1.out.2.1.at_ j hj))
          have h76 := hk6 _ _ _ _ H75.out (by decide) (by decide) (by decide)
          have HTW6 := Lib.hid htw6
          have H76 := Lib.hid h76
          clear htw6 hn6 hm6 hx6 hk6 h76 q0 q1 q2 q3 q4
          go_wp2_with fail
          refine HALL.out.mono ?_
          rintro e W7 ⟨v7, d7, rfl, hcop, hb7⟩
          obtain ⟨Aa, ca, rfl⟩ := own_shape hcop.2.1
          have hu7 := up_below hb7
          have HROW := Lib.hid hcop.2.1
          have HDLN := Lib.hid hcop.1
          have HDAT := Lib.hid (show ∀ j, j < L1.length → (∃ A c, d7.getD j undef = .slice A (L1.getD j default).2.2.length c) ∧ Some5 W6.heap.size (d7.getD j undef) (L1.getD j default).2.2.length W7 from fun j hj => ⟨own_shape (hcop.2.2 j hj), _, rfl, hcop.2.2 j hj⟩)
          have HU7 := Lib.hid hu7
          have hlen1 : L1.length ≤ 31 := by omega
          clear hcop hb7 hu7
          go_wp2_with fail
          go_loopw [59] (fun i wa => ∃ j : Nat, j ≤ L1.length ∧ i = .int .i64 j ∧ Up W6 wa ∧ KeepS W6.heap.size W7 wa) (fun i _ => L1.length - (intOf i).toNat)
          case atStart => exact ⟨0, by omega, rfl, HU7.out, KeepS.up _ _ _ (Chg.refl _ _)⟩
          case round =>
            rename World => wa
            obtain ⟨j, hj, rfl, hua, hka⟩ := hrel
            by_cases hj2 : (j : Int) < L1.length
            · have hjj : j < L1.length := by omega
              obtain ⟨ga', rfl⟩ : ∃ g, Aa = some ⟨g, 0, none⟩ := by
                rcases HROW.out.2 with ⟨_, hz⟩ | ⟨g, cap, cur, he, _⟩
                · omega
                · injection he with e1; exact ⟨g, e1⟩
              obtain ⟨r0, r1, r2⟩ := row_cells (own_keepS HROW.out hka (by decide)) HDLN.out j hjj
              obtain ⟨⟨D3, c3, hd3⟩, hs5⟩ := HDAT.out j hjj
              have hs5a := hka.2.2 _ _ hs5
              have hxl := HB1.out.2.1.at_ j hjj
              obtain ⟨y, hye⟩ : ∃ y, L1.getD j default = y := ⟨_, rfl⟩
              rw [hye] at r0 r1 hd3 hs5a hxl
              obtain ⟨f, t, xs⟩ := y
              dsimp only at r0 r1 hd3 hs5a hxl
              rw [hd3] at r2 hs5a
              obtain ⟨wb, hwb⟩ : ∃ W, W = wa.alloc (.cells #[.int .i64 f, .int .i64 t, .slice D3 xs.length c3] 29) := ⟨_, rfl⟩
              have hub : Up wa wb := by rw [hwb]; exact (Chg.refl _ wa).alloc _
              obtain ⟨g9, hg9⟩ : ∃ g, g = wa.heap.size := ⟨_, rfl⟩
              have h9b : wb.heap[g9]? = some (.cells #[.int .i64 f, .int .i64 t, .slice D3 xs.length c3] 29 (0, 0)) := by rw [hwb, hg9]; exact heap_alloc_last _ _
              have HWB := Lib.hid hwb
              have HGB := Lib.hid hg9
              have H9B := Lib.hid h9b
              have HUB := Lib.hid (hua.trans hub)
              have HKB := Lib.hid (hka.trans _ _ _ _ (KeepS.up _ _ _ hub))
              have HS5 := Lib.hid (hs5a.up hub)
              clear hua hka hs5 hs5a hd3 hye hwb hub hg9 h9b
              go_wp2_with fail
              rw [← HWB.out, ← HGB.out]
              clear r0 r1 r2
              go_loopw [66] (fun i wc => ∃ n : Nat, n ≤ xs.length ∧ i = .int .i64 n ∧ Up W6 wc ∧ KeepS W6.heap.size W7 wc ∧ wc.heap[g9]? = some (.cells #[.int .i64 f, .int .i64 t, .slice D3 xs.length c3] 29 (0, 0)) ∧ Some5 W6.heap.size (.slice D3 xs.length c3) xs.length wc) (fun i _ => xs.length - (intOf i).toNat)
              case atStart => exact ⟨0, by omega, rfl, HUB.out, HKB.out, H9B.out, HS5.out⟩
              case round =>
                rename World => wc
                obtain ⟨n, hn, rfl, huc, hkc, h9c, us, hus, hrow⟩ := hrel
                have b2 := cell_of_row wc g9 2 _ _ _ h9c
                by_cases hn2 : (n : Int) < xs.length
                · obtain ⟨gb, rfl⟩ : ∃ g, D3 = some ⟨g, 0, none⟩ := by
                    rcases hrow.2 with ⟨_, hz⟩ | ⟨g, cap, cur, he, _⟩
                    · omega
                    · injection he with e1; exact ⟨g, e1⟩
                  have lc := World.ownsRow.cells hrow rfl n _ (u8s_at (show n < us.length by omega))
                  have fzj := World.ownsRow.frozenAt hrow n
                  rw [addr_add, Nat.zero_add] at lc
                  obtain ⟨cur, fr, hgb⟩ := own_type hrow gb rfl
                  have hset := (World.ownsRow.stored hrow n (.int .u8 7)).1
                  rw [u8s_set] at hset
                  have h9d := (KeepS.set (n := W6.heap.size) hgb n 7).2.1 _ _ _ _ h9c (by decide)
                  have HUC := Lib.hid (huc.setCell ⟨gb, n, none⟩ (.inr (own_ge hrow gb rfl)) (.int .u8 7))
                  have HKC := Lib.hid (hkc.trans _ _ _ _ (KeepS.set hgb n 7))
                  have H9D := Lib.hid h9d
                  have HSET := Lib.hid hset
                  clear huc hkc h9c hrow hgb hset h9d
                  go_wp2_with fail
                  exact ⟨⟨n + 1, by omega, by go_num, HUC.out, HKC.out, H9D.out, us.set n 7, by rw [List.length_set]; exact hus, HSET.out⟩, by simp [intOf]; omega⟩
                · have HUC := Lib.hid huc
                  have HKC := Lib.hid hkc
                  clear huc hkc h9c hrow
                  go_wp2_with fail
                  exact ⟨⟨j + 1, by omega, by go_num, HUC.out, HKC.out⟩, by simp [intOf]; omega⟩
            · have hta := HTW6.out.up hua
              obtain ⟨⟨dn, hna⟩, _, _, _, _, _, _, _⟩ := id hta
              have HSP := fun who => Lib.hid (spoil_any wa p lv5 dn L1 s1 hna (by have := HB1.out.1; omega) (fun j hj => HB1.out.2.1.at_ j hj) who)
              have h7a := hua.heap H76.out (fun h => h)
              have q3 := cell_of_row wa g7 3 _ _ _ h7a
              rw [HG7.out] at q3
              have HTA := Lib.hid hta
              clear hua hka hta hna h7a
              go_wp2_with fail
              refine (HSP _).out.mono ?_
              rintro e W9 ⟨⟨v9, rfl⟩, hb9⟩
              have HT9 := Lib.hid (HTA.out.up (up_below hb9))
              clear hb9 q3 HSP
              go_wp2_with fail
              exact ⟨⟨k + 1, lv5, lm6, _, _, by omega, by go_num, by rw [HL1.out, HS1.out]; exact HT9.out, HALL2.out, by have := HMS.out; omega, HFM2.out, by have := HMS.out; (try unfold sentO); omega, by have := HMS.out; (try unfold sentO); omega⟩, by simp [intOf]; omega⟩
      · obtain rfl : k = os.length := by omega
        rw [List.take_length] at htw
        obtain ⟨q1, q2, q3, q4⟩ := play_ok HLL.out HFW.out HSS.out.1 HSS.out.2 (show os.length ≤ 200 by omega) (fun j hj => by have := hall j hj; omega) os.length
        rw [List.take_length] at q1 q2
        obtain ⟨⟨dn, hnn⟩, _, hxx, _, _, _, _, _⟩ := id htw
        obtain ⟨L1, hL1⟩ : ∃ L, playI [] os = L := ⟨_, rfl⟩
        rw [hL1] at hnn hxx q1 q2
        have HSAME := Lib.hid (same_any wr p lv dn L1 _ hnn (by omega) (fun j hj => q2.at_ j hj) 0 _ hxx)
        have HCH := Lib.hid htw.chg
        clear htw hnn hxx hL1 q1 q2 q3 q4 hall hfm
        go_wp2_with fail
        refine HSAME.out.mono ?_
        rintro e W8 ⟨rfl, hb8⟩
        have HCF8 := Lib.hid (HCH.out.then (up_below hb8) (fun i hi => hi.elim))
        have HAW := Lib.hid (awake_any W8)
        clear hb8
        go_wp2_with fail
        refine HAW.out.mono ?_
        rintro e W10 ⟨rfl, hb10⟩
        have HB10 := Lib.hid hb10
        clear hb10
        go_wp2_with fail
        go_ret
        exact ⟨rfl, (HCF8.out.below (Nat.le_refl _) (fun i hi => hi)).trans (HB10.out.mono HCF8.out.size)⟩
end Go.Proofs.Ytofmblkmfbioiaa
