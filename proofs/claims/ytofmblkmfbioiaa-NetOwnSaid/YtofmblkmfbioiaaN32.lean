/-
  The law 'NetBetween', walked.
-/
import Derived.Test.YtofmblkmfbioiaaN31
namespace Go.Proofs.Ytofmblkmfbioiaa
open Go.RowKit
/-- One call more of many, where the bytes of the calls so far are few. -/
theorem PlayAt.next' {w0 : World} {p : Nat} {lv0 xv0 : Value} {ls : List Let} {s : Int} {os : List OpI} {k : Nat} {lv xv : Value} {w : World} (h : PlayAt w0 p lv0 xv0 (playI ls (os.take k)) (sentI' s (os.take k)) lv xv w)
    (hl : ls.length ≤ 200) (hf : Few ls) (hs0 : 0 ≤ s) (hs1 : s ≤ 200) (ho : os.length ≤ 200) (hk : k < os.length) (hd : ∀ j, j < k + 1 → (os.getD j default).dat.length ≤ 100) (o : OpI) (hoe : os.getD k default = o) (d : Value) (hsl : SlB w d o.dat)
    (hdl : ∀ b, Value.blk d = some b → 0 < o.dat.length → b ≠ p ∧ lv.ownBlock ≠ some b) :
    Calls Try.prog 15 #[.pointer (some ⟨p, 0, none⟩), xv, .agg #[.int .i64 o.kind, .int .i64 o.at_, .int .i64 o.frm, .int .i64 o.to_, d]] w (Stepped w0 p lv0 xv0 (playI ls (os.take (k + 1))) (sentI' s (os.take (k + 1)))) := by
  have e1 : (os.take (k + 1)).take k = os.take k := by rw [List.take_take, Nat.min_eq_left (by omega)]
  have e2 : (os.take (k + 1)).take (k + 1) = os.take (k + 1) := by rw [List.take_take, Nat.min_self]
  have hlen : (os.take (k + 1)).length = k + 1 := by rw [List.length_take]; omega
  have := PlayAt.next (os := os.take (k + 1)) (k := k) (by rw [e1]; exact h) hl hf hs0 hs1 (by omega) (fun j hj => by rw [takeO_getD os (k + 1) j hj]; have := hd j (by omega); omega) (by omega) o (by rw [takeO_getD os (k + 1) k (by omega)]; exact hoe) d hsl hdl
  rw [e2] at this
  exact this
theorem filter_at (L : List Let) (q : Let → Bool) (k : Nat) (hk : k < L.length) (hq : q (L.getD k default) = true) : ((L.take k).filter q).length < (L.filter q).length ∧ (L.filter q).getD ((L.take k).filter q).length default = L.getD k default := by
  have hx : L.getD k default = L[k] := by rw [List.getD_eq_getElem?_getD, List.getElem?_eq_getElem hk]; rfl
  rw [hx] at hq ⊢
  have e : L = L.take k ++ L[k] :: L.drop (k + 1) := by simp
  have e2 : L.filter q = (L.take k).filter q ++ (L[k] :: (L.drop (k + 1)).filter q) := by
    conv => lhs; rw [e]
    rw [List.filter_append, List.filter_cons, if_pos hq]
  rw [e2]
  refine ⟨by rw [List.length_append, List.length_cons]; omega, ?_⟩
  rw [List.getD_eq_getElem?_getD, List.getElem?_append_right (Nat.le_refl _), Nat.sub_self]; rfl
theorem filter_next (L : List Let) (q : Let → Bool) (k : Nat) (hk : k < L.length) : ((L.take (k + 1)).filter q).length = ((L.take k).filter q).length + if q (L.getD k default) = true then 1 else 0 := by
  rw [take_snoc L k hk, List.filter_append, List.length_append]
  congr 1
  by_cases h : q (L.getD k default) = true
  · rw [if_pos h, List.filter_cons, if_pos h]; rfl
  · rw [if_neg h, List.filter_cons, if_neg h]; rfl
set_option maxRecDepth 100000 in
set_option maxHeartbeats 4000000 in
theorem netBetween_any (w : World) (v1 : Value) (os : List OpI) (ds1 : List Value) (h1 : OpsAt w v1 os ds1) (a b : Int) : Calls Try.prog 7 #[v1, .int .i64 a, .int .i64 b] w (TruePost w) := by
  obtain ⟨A1, c1, rfl, hl1, hm1⟩ := h1.shape
  have HO1 := Lib.hid h1
  clear h1
  have hn0 := net_new w
  obtain ⟨W1, hW1⟩ : ∃ W1, W1 = w.alloc (.cells #[.slice none 0 0, .int .i64 0] 57) := ⟨_, rfl⟩
  rw [← hW1] at hn0
  have hu1 : Up w W1 := by rw [hW1]; exact (Chg.refl _ w).alloc _
  obtain ⟨p, hp⟩ : ∃ p, p = w.heap.size := ⟨_, rfl⟩
  rw [← hp] at hn0
  have HN0 := Lib.hid hn0
  have HU1 := Lib.hid hu1
  have HP := Lib.hid hp
  have HW1 := Lib.hid hW1
  have HNEW := Lib.hid (new_any w)
  clear hn0 hu1 hW1 hp
  go_enter Try.func7, Try.ntmps7
  by_cases hbad : (40 : Int) < os.length
  · go_wp2_with fail
    refine HNEW.out.mono ?_
    rintro e W0 ⟨rfl, rfl⟩
    rw [← HW1.out, ← HP.out]
    have HAW := Lib.hid (awake_any W1)
    go_wp2_with fail
    refine HAW.out.mono ?_
    rintro e W2 ⟨rfl, hb2⟩
    have HB2 := Lib.hid hb2
    clear hb2
    go_wp2_with fail
    go_ret
    exact ⟨rfl, (HU1.out.below_none (fun _ _ h => h)).trans (HB2.out.mono HU1.out.size)⟩
  · have hob : os.length ≤ 40 := by omega
    go_wp2_with fail
    refine HNEW.out.mono ?_
    rintro e W0 ⟨rfl, rfl⟩
    rw [← HW1.out, ← HP.out]
    have HST0 := Lib.hid (PlayAt.start HN0.out (show XAt W1 0 (.slice none 0 0) [] from World.ownsRow_nil _ _ _ _))
    have HCB := Lib.hid (show Chg (fun i => w.heap.size ≤ i) w W1 from HU1.out.mono (fun _ _ h => h.elim))
    have HPB := Lib.hid (show w.heap.size ≤ p by have := HP.out; omega)
    have HNB := Lib.hid (show ∀ g, (Value.slice none 0 0).ownBlock = some g → w.heap.size ≤ g from fun g hg => by simp [Value.ownBlock] at hg)
    have HLL := Lib.hid (show ([] : List Let).length ≤ 200 by decide)
    have HFW := Lib.hid Few.nil
    have HSS := Lib.hid (show (0 : Int) ≤ 0 ∧ (0 : Int) ≤ 200 by omega)
    go_wp2_with fail
    go_loopw [8, 30] (fun xv i wr => ∃ (k : Nat) (lv : Value), k ≤ os.length ∧ i = .int .i64 k ∧ PlayAt W1 p (.slice none 0 0) (.slice none 0 0) (playI [] (os.take k)) (sentI' 0 (os.take k)) lv xv wr ∧ ∀ j, j < k → (os.getD j default).dat.length ≤ 100) (fun _ i _ => os.length - (intOf i).toNat)
    case atStart => exact ⟨0, _, by omega, rfl, by rw [List.take_zero]; exact HST0.out, fun j hj => by omega⟩
    case round =>
      rename World => wr
      obtain ⟨k, lv, hk, rfl, hpl, hall⟩ := hrel
      by_cases hk2 : (k : Int) < os.length
      · obtain ⟨hch, hlb, hxb⟩ := hpl.base HCB.out (Nat.le_refl _) HPB.out HNB.out HNB.out
        obtain ⟨b', off, rfl, a0, a1, a2, a3, a4, hsl, hdl⟩ := HO1.out.row hch k (by omega)
        obtain ⟨o, ho⟩ : ∃ o, os.getD k default = o := ⟨_, rfl⟩
        rw [ho] at a0 a1 a2 a3 hsl hdl
        obtain ⟨Ad, cd, hd, _⟩ := hsl.shape
        rw [hd] at a4 hsl hdl
        obtain ⟨wq, hwq⟩ : ∃ W, W = wr.alloc (.cells #[.int .i64 o.kind, .int .i64 o.at_, .int .i64 o.frm, .int .i64 o.to_, .slice Ad o.dat.length cd] 36) := ⟨_, rfl⟩
        have huq : Up wr wq := by rw [hwq]; exact (Chg.refl _ wr).alloc _
        have HWQ := Lib.hid hwq
        have HUQ := Lib.hid huq
        by_cases hx : (100 : Int) < o.dat.length
        · have HAW := Lib.hid (awake_any wq)
          have HCH := Lib.hid (hch.then huq (fun i hi => hi.elim))
          clear hpl hch hlb hxb hsl hdl hd ho hwq huq hall
          go_wp2_with fail
          rw [← HWQ.out]
          refine HAW.out.mono ?_
          rintro e W4 ⟨rfl, hb4⟩
          have HB4 := Lib.hid hb4
          clear hb4
          go_wp2_with fail
          go_ret
          exact ⟨rfl, (HCH.out.below (Nat.le_refl _) (fun i hi => hi)).trans (HB4.out.mono HCH.out.size)⟩
        · have hall2 : ∀ j, j < k + 1 → (os.getD j default).dat.length ≤ 100 := fun j hj => by
            by_cases hjk : j = k
            · subst hjk; rw [ho]; omega
            · exact hall j (by omega)
          have hst := (hpl.up huq).next' HLL.out HFW.out HSS.out.1 HSS.out.2 (by omega) (by omega) hall2 o ho _ (Src.chg hsl huq (fun _ _ _ h => h) (by decide))
            (fun g hg h0 => ⟨fun e => by have h1 := hdl g hg h0; have h2 := HPB.out; omega, fun e => by have h1 := hdl g hg h0; have h2 := hlb g e; omega⟩)
          have HST := Lib.hid hst
          have HALL2 := Lib.hid hall2
          clear hpl hch hlb hxb hsl hdl hd ho hwq huq hst hall hall2
          go_wp2_with fail
          rw [← HWQ.out]
          refine HST.out.mono ?_
          rintro e W9 ⟨B9, c9, lv9, rfl, hpl9⟩
          have HPL9 := Lib.hid hpl9
          clear hpl9 a0 a1 a2 a3 a4
          go_wp2_with fail
          exact ⟨⟨k + 1, lv9, by omega, by go_num, HPL9.out, HALL2.out⟩, by simp [intOf]; omega⟩
      · obtain rfl : k = os.length := by omega
        rw [List.take_length] at hpl
        obtain ⟨hch, hlb, hxb⟩ := hpl.base HCB.out (Nat.le_refl _) HPB.out HNB.out HNB.out
        obtain ⟨ds, hnet, hX, _, _, _⟩ := hpl
        obtain ⟨q1, q2, q3, q4⟩ := play_ok HLL.out HFW.out HSS.out.1 HSS.out.2 (show os.length ≤ 200 by omega) (fun j hj => by have := hall j hj; omega) os.length
        have q5 := playI_len [] os
        rw [List.take_length] at q1 q2
        rw [List.length_nil] at q5
        obtain ⟨L, hL⟩ : ∃ L, playI [] os = L := ⟨_, rfl⟩
        obtain ⟨S1, hS1⟩ : ∃ s, sentI' 0 os = s := ⟨_, rfl⟩
        rw [hL] at hnet hX q1 q2 q5
        rw [hS1] at hnet
        have hln : L.length ≤ 40 := by omega
        obtain ⟨Bx, cx, rfl⟩ := own_shape hX
        have HBET := Lib.hid (net_between wr p lv ds L S1 hnet (by omega) (fun j hj => q2.at_ j hj) a b)
        have HFW1 := Lib.hid q2
        have HNET := Lib.hid hnet
        have HX := Lib.hid hX
        have HCH := Lib.hid hch
        clear hnet hX hch hlb hxb q1 q2 q3 q4 q5 hL hS1 hk hk2 HST0 HLL HFW HSS hall
        go_wp2_with fail
        refine HBET.out.mono ?_
        rintro e W3 ⟨v12, ds12, rfl, hcop, hb3⟩
        obtain ⟨N, hN⟩ : ∃ N, (L.filter (keepB a b)).length = N := ⟨_, rfl⟩
        have hNb : N ≤ 40 := by rw [← hN]; exact Nat.le_trans (List.length_filter_le _ _) hln
        have hsh := own_shape hcop.2.1
        rw [hN] at hsh
        obtain ⟨G12, c12, rfl⟩ := hsh
        have hu3 := up_below hb3
        have HN := Lib.hid hN
        have HG := Lib.hid hcop
        have HU3 := Lib.hid hu3
        have HX3 := Lib.hid (show XAt W3 0 (.slice Bx L.length cx) L from own_chg HX.out hu3 (fun _ _ h => h))
        clear hb3 hcop hN hu3 HBET
        go_wp2_with fail
        go_loopw [11, 54] (fun at_ i wr => ∃ (k : Nat), k ≤ L.length ∧ at_ = .int .i64 ((L.take k).filter (keepB a b)).length ∧ i = .int .i64 k ∧ Up W3 wr) (fun _ i _ => L.length - (intOf i).toNat)
        case atStart => exact ⟨0, by omega, rfl, rfl, Chg.refl _ _⟩
        case round =>
          rename World => wr
          obtain ⟨k, hk, rfl, rfl, hu⟩ := hrel
          by_cases hk2 : (k : Int) < L.length
          · have hkk : k < L.length := by omega
            obtain ⟨m, hm⟩ : ∃ m, ((L.take k).filter (keepB a b)).length = m := ⟨_, rfl⟩
            rw [hm]
            have hmb : m ≤ 40 := by rw [← hm]; exact Nat.le_trans (List.length_filter_le _ _) (by rw [List.length_take]; omega)
            obtain ⟨gx, rfl⟩ : ∃ g, Bx = some ⟨g, 0, none⟩ := by
              rcases HX3.out.2 with ⟨_, hz⟩ | ⟨g, cap, cur, he, _⟩
              · omega
              · injection he with e1; exact ⟨g, e1⟩
            obtain ⟨s0, s1, s2⟩ := (show XAt wr 0 _ L from own_chg HX3.out hu (fun _ _ h => h)).cells k hkk
            obtain ⟨y, hye⟩ : ∃ y, L.getD k default = y := ⟨_, rfl⟩
            rw [hye] at s0 s1 s2
            obtain ⟨f, t, xs⟩ := y
            dsimp only at s0 s1 s2
            obtain ⟨st, hst⟩ : ∃ s, strOfNums xs = s := ⟨_, rfl⟩
            rw [hst] at s2
            obtain ⟨wq, hwq⟩ : ∃ W, W = wr.alloc (.cells #[.int .i64 f, .int .i64 t, .string st] 49) := ⟨_, rfl⟩
            obtain ⟨g14, hg14⟩ : ∃ g, g = wr.heap.size := ⟨_, rfl⟩
            have huq : Up wr wq := by rw [hwq]; exact (Chg.refl _ wr).alloc _
            have hlq : wq.heap[g14]? = some (.cells #[.int .i64 f, .int .i64 t, .string st] 49 (0, 0)) := by rw [hwq, hg14]; exact heap_alloc_last _ _
            have HM := Lib.hid hm
            have HYE := Lib.hid hye
            have HST := Lib.hid hst
            have HU := Lib.hid hu
            have HUQ := Lib.hid huq
            have HLQ := Lib.hid hlq
            have HWQ := Lib.hid hwq
            have HGQ := Lib.hid hg14
            clear hm hye hst hu huq hlq hwq hg14
            by_cases h1 : f = a
            · have e1 : (f == a) = true := by rw [beq_iff_eq]; exact h1
              by_cases h2 : t = b
              · have e2 : (t == b) = true := by rw [beq_iff_eq]; exact h2
                clear h1 h2
                have hkeep : keepB a b (f, t, xs) = true := by unfold keepB betI; simp [*]
                obtain ⟨hm1, hm2⟩ := filter_at L (keepB a b) k hkk (by rw [HYE.out]; exact hkeep)
                rw [HM.out, HN.out] at hm1
                rw [HM.out, HYE.out] at hm2
                obtain ⟨gg, rfl⟩ : ∃ g, G12 = some ⟨g, 0, none⟩ := by
                  rcases HG.out.2.1.2 with ⟨_, hz⟩ | ⟨g, cap, cur, he, _⟩
                  · rw [HN.out] at hz; omega
                  · injection he with e1; exact ⟨g, e1⟩
                have hm3 : m < (L.filter (keepB a b)).length := by rw [HN.out]; exact hm1
                have hrow := HG.out.2.1
                obtain ⟨r0, r1, r2⟩ := row_cells (by rw [HN.out] at hrow; exact hrow) HG.out.1 m hm3
                have hdat := HG.out.2.2 m hm3
                rw [hm2] at r0 r1 hdat
                dsimp only at r0 r1 hdat
                obtain ⟨A3, c3, hd3⟩ := own_shape hdat
                rw [hd3] at r2 hdat
                have hud : Up W3 wq.drew := (HU.out.trans HUQ.out).drew
                have L0 := Lib.hid (hud.cell r0 (fun h => h))
                have L1 := Lib.hid (hud.cell r1 (fun h => h))
                have L2 := Lib.hid (hud.cell r2 (fun h => h))
                have M0 : Hid (wq.drew.cell? ⟨g14, 0, none⟩ = some (.int .i64 f)) := Lib.hid (cell_of_row wq g14 0 _ _ _ HLQ.out)
                have M1 : Hid (wq.drew.cell? ⟨g14, 1, none⟩ = some (.int .i64 t)) := Lib.hid (cell_of_row wq g14 1 _ _ _ HLQ.out)
                have M2 : Hid (wq.drew.cell? ⟨g14, 2, none⟩ = some (.string st)) := Lib.hid (cell_of_row wq g14 2 _ _ _ HLQ.out)
                have HD9 : Hid (SlB wq.drew (.slice A3 xs.length c3) xs) := Lib.hid (DatB.slb (own_base (own_chg hdat hud (fun _ _ h => h)) (Nat.zero_le _)))
                clear hm2 hm3 hrow r0 r1 r2 hdat hd3 hud
                have hge : ¬ (N : Int) ≤ (m : Int) := by omega
                go_wp2_with fail
                rw [← HWQ.out, ← HGQ.out]
                refine MT.region_mono Up [fun v _ => v = .int .i64 (m : Int),
                    fun v _ => v = .slice (some ⟨gg, 0, none⟩) N c12,
                    fun v _ => v = .int .i64 (N : Int),
                    fun v _ => v = .bool false,
                    fun v _ => v = .bool false,
                    fun v _ => v = .slice (some ⟨gg, 0, none⟩) N c12,
                    fun v _ => v = .int .i64 (m : Int),
                    fun v _ => v = .pointer (some ⟨gg, m * 3, none⟩),
                    fun v _ => v = .agg #[.int .i64 f, .int .i64 t, .slice A3 xs.length c3],
                    fun v _ => v = .agg #[.int .i64 f, .int .i64 t, .string st],
                    fun v _ => v = .agg #[.int .i64 f, .int .i64 t, .string st],
                    fun v _ => v = .bool false,
                    fun v _ => v = .bool false] (by kernel_rfl) (by kernel_rfl) (Chg.refl _) (fun _ _ _ => Chg.trans) (by simp) ?_ ?_ ?_
                · simp only [List.forall_mem_cons]
                  exact ⟨fun _ _ _ _ _ h => h, fun _ _ _ _ _ h => h, fun _ _ _ _ _ h => h, fun _ _ _ _ _ h => h, fun _ _ _ _ _ h => h, fun _ _ _ _ _ h => h, fun _ _ _ _ _ h => h, fun _ _ _ _ _ h => h, fun _ _ _ _ _ h => h, fun _ _ _ _ _ h => h, fun _ _ _ _ _ h => h, fun _ _ _ _ _ h => h, fun _ _ _ _ _ h => h, by simp⟩
                · refine ⟨?_, ?_, ?_, ?_, ?_, ?_, ?_, ?_, ?_, ?_, ?_, ?_, ?_, trivial⟩
                  · intro ρ w1 hw h0 hc hg hf hd
                    have s11 : ρ (.tmp 11) = .int .i64 (m : Int) := h0 11 (by kernel_rfl)
                    refine ⟨fun _ => ?_, fun h => by cases h⟩
                    clear h0 hg hd
                    exact gives_move rfl ⟨Chg.refl _ _, s11⟩
                  · intro ρ w1 hw h0 hc hg hf hd
                    have s12 : ρ (.tmp 12) = .slice (some ⟨gg, 0, none⟩) N c12 := h0 12 (by kernel_rfl)
                    refine ⟨fun _ => ?_, fun h => by cases h⟩
                    clear h0 hg hd
                    exact gives_move rfl ⟨Chg.refl _ _, s12⟩
                  · intro ρ w1 hw h0 hc hg hf hd
                    have d1 := hd ⟨1, .data⟩ (by simp) rfl _ _ _ rfl rfl rfl
                    refine ⟨fun _ => ?_, fun h => by cases h⟩
                    clear h0 hg hd
                    clear hf
                    refine Gives.value (w' := w1) ?_ ⟨Chg.refl _ _, rfl⟩
                    go_simp
                  · intro ρ w1 hw h0 hc hg hf hd
                    have d0 := hd ⟨0, .data⟩ (by simp) rfl _ _ _ rfl rfl rfl
                    have d2 := hd ⟨2, .data⟩ (by simp) rfl _ _ _ rfl rfl rfl
                    refine ⟨fun _ => ?_, fun h => by cases h⟩
                    clear h0 hg hd
                    clear hf
                    refine Gives.value (w' := w1) ?_ ⟨Chg.refl _ _, rfl⟩
                    go_simp
                  · intro ρ w1 hw h0 hc hg hf hd
                    have d3 := hd ⟨3, .data⟩ (by simp) rfl _ _ _ rfl rfl rfl
                    refine ⟨fun _ => ?_, fun h => by cases h⟩
                    clear h0 hg hd
                    exact gives_move rfl ⟨Chg.refl _ _, d3⟩
                  · intro ρ w1 hw h0 hc hg hf hd
                    have d4 := hd ⟨4, .guard⟩ (by simp) rfl _ _ _ rfl rfl rfl
                    have s12 : ρ (.tmp 12) = .slice (some ⟨gg, 0, none⟩) N c12 := h0 12 (by kernel_rfl)
                    refine ⟨fun _ => ?_, fun h => by rw [wantedBy_true rfl rfl rfl d4] at h; cases h⟩
                    clear d4
                    clear h0 hg hd
                    exact gives_move rfl ⟨Chg.refl _ _, s12⟩
                  · intro ρ w1 hw h0 hc hg hf hd
                    have d4 := hd ⟨4, .guard⟩ (by simp) rfl _ _ _ rfl rfl rfl
                    have s11 : ρ (.tmp 11) = .int .i64 (m : Int) := h0 11 (by kernel_rfl)
                    refine ⟨fun _ => ?_, fun h => by rw [wantedBy_true rfl rfl rfl d4] at h; cases h⟩
                    clear d4
                    clear h0 hg hd
                    exact gives_move rfl ⟨Chg.refl _ _, s11⟩
                  · intro ρ w1 hw h0 hc hg hf hd
                    have d5 := hd ⟨5, .data⟩ (by simp) rfl _ _ _ rfl rfl rfl
                    have d6 := hd ⟨6, .data⟩ (by simp) rfl _ _ _ rfl rfl rfl
                    have d4 := hd ⟨4, .guard⟩ (by simp) rfl _ _ _ rfl rfl rfl
                    refine ⟨fun _ => ?_, fun h => by rw [wantedBy_true rfl rfl rfl d4] at h; cases h⟩
                    clear d4
                    clear h0 hg hd
                    clear hf
                    refine Gives.value (w' := w1) ?_ ⟨Chg.refl _ _, rfl⟩
                    go_simp
                  · intro ρ w1 hw h0 hc hg hf hd
                    have d7 := hd ⟨7, .data⟩ (by simp) rfl _ _ _ rfl rfl rfl
                    have d4 := hd ⟨4, .guard⟩ (by simp) rfl _ _ _ rfl rfl rfl
                    refine ⟨fun _ => ?_, fun h => by rw [wantedBy_true rfl rfl rfl d4] at h; cases h⟩
                    clear d4
                    clear h0 hg hd
                    clear hc hf
                    have l0 := hw.cell L0.out (fun h => h)
                    have l1 := hw.cell L1.out (fun h => h)
                    have l2 := hw.cell L2.out (fun h => h)
                    refine Gives.value (w' := w1) ?_ ⟨Chg.refl _ _, rfl⟩
                    go_simp
                  · intro ρ w1 hw h0 hc hg hf hd
                    have d8 := hd ⟨8, .data⟩ (by simp) rfl _ _ _ rfl rfl rfl
                    have d4 := hd ⟨4, .chain⟩ (by simp) rfl _ _ _ rfl rfl rfl
                    refine ⟨fun _ => ?_, fun h => by rw [wantedBy_true rfl rfl rfl d4] at h; cases h⟩
                    clear d4
                    clear h0 hg hd
                    have hcl := ref_any w1 f t (.slice A3 xs.length c3) xs (Src.chg HD9.out hw (fun _ _ _ h => h) (by decide))
                    unfold refV at hcl
                    dsimp only at hcl
                    rw [HST.out] at hcl
                    refine gives_call rfl hf Try.func21 rfl (by kernel_rfl) (args := #[.agg #[.int .i64 f, .int .i64 t, .slice A3 xs.length c3]]) (by simp [hc, d8]) (hcl.mono ?_)
                    rintro e w2 ⟨rfl, hb⟩
                    exact ⟨_, rfl, up_below hb, rfl⟩
                  · intro ρ w1 hw h0 hc hg hf hd
                    have d4 := hd ⟨4, .guard⟩ (by simp) rfl _ _ _ rfl rfl rfl
                    have s14 : ρ (.tmp 14) = .pointer (some ⟨g14, 0, none⟩) := h0 14 (by kernel_rfl)
                    refine ⟨fun _ => ?_, fun h => by rw [wantedBy_true rfl rfl rfl d4] at h; cases h⟩
                    clear d4
                    clear h0 hg hd
                    clear hc hf
                    have l0 := hw.cell M0.out (fun h => h)
                    have l1 := hw.cell M1.out (fun h => h)
                    have l2 := hw.cell M2.out (fun h => h)
                    refine Gives.value (w' := w1) ?_ ⟨Chg.refl _ _, rfl⟩
                    go_simp
                  · intro ρ w1 hw h0 hc hg hf hd
                    have d9 := hd ⟨9, .data⟩ (by simp) rfl _ _ _ rfl rfl rfl
                    have d10 := hd ⟨10, .data⟩ (by simp) rfl _ _ _ rfl rfl rfl
                    have d4 := hd ⟨4, .guard⟩ (by simp) rfl _ _ _ rfl rfl rfl
                    refine ⟨fun _ => ?_, fun h => by rw [wantedBy_true rfl rfl rfl d4] at h; cases h⟩
                    clear d4
                    clear h0 hg hd
                    clear hf
                    have q1 := neq49 f t st w1
                    have q2 := guard49 .neq (.tmp 89) (.tmp 90) f t st w1
                    refine Gives.value (v := .bool false) (w' := w1) ?_ ⟨Chg.refl _ _, rfl⟩
                    unfold execOp
                    simp [d9, d10, q1, q2]
                  · intro ρ w1 hw h0 hc hg hf hd
                    have d4 := hd ⟨4, .data⟩ (by simp) rfl _ _ _ rfl rfl rfl
                    have d11 := hd ⟨11, .data⟩ (by simp) rfl _ _ _ rfl rfl rfl
                    refine ⟨fun _ => ?_, fun h => by cases h⟩
                    clear h0 hg hd
                    clear hf
                    refine Gives.value (w' := w1) ?_ ⟨Chg.refl _ _, rfl⟩
                    go_simp
                · intro vs w9 hw hr
                  have h12 := hr 12 _ rfl
                  clear hr
                  dsimp only [putsL, restL]
                  simp only [Act.put, List.setIfInBounds_toArray, List.set_cons_zero, List.set_cons_succ]
                  rw [h12]
                  have HU9 := Lib.hid ((HU.out.trans (HUQ.out.trans (Chg.refl _ _).drew)).trans hw)
                  clear hw h12
                  go_wp2_with fail
                  have e1 := filter_next L (keepB a b) k hkk
                  rw [HYE.out, hkeep, if_pos rfl] at e1
                  exact ⟨⟨k + 1, by omega, by rw [e1, HM.out]; go_num, by go_num, HU9.out⟩, by simp [intOf]; omega⟩
              · have e2 : (t == b) = false := by rw [beq_eq_false_iff_ne]; exact h2
                clear h2
                by_cases h3 : f = b
                · have e3 : (f == b) = true := by rw [beq_iff_eq]; exact h3
                  by_cases h4 : t = a
                  · have e4 : (t == a) = true := by rw [beq_iff_eq]; exact h4
                    clear h1 h3 h4
                    have hkeep : keepB a b (f, t, xs) = true := by unfold keepB betI; simp [*]
                    obtain ⟨hm1, hm2⟩ := filter_at L (keepB a b) k hkk (by rw [HYE.out]; exact hkeep)
                    rw [HM.out, HN.out] at hm1
                    rw [HM.out, HYE.out] at hm2
                    obtain ⟨gg, rfl⟩ : ∃ g, G12 = some ⟨g, 0, none⟩ := by
                      rcases HG.out.2.1.2 with ⟨_, hz⟩ | ⟨g, cap, cur, he, _⟩
                      · rw [HN.out] at hz; omega
                      · injection he with e1; exact ⟨g, e1⟩
                    have hm3 : m < (L.filter (keepB a b)).length := by rw [HN.out]; exact hm1
                    have hrow := HG.out.2.1
                    obtain ⟨r0, r1, r2⟩ := row_cells (by rw [HN.out] at hrow; exact hrow) HG.out.1 m hm3
                    have hdat := HG.out.2.2 m hm3
                    rw [hm2] at r0 r1 hdat
                    dsimp only at r0 r1 hdat
                    obtain ⟨A3, c3, hd3⟩ := own_shape hdat
                    rw [hd3] at r2 hdat
                    have hud : Up W3 wq.drew := (HU.out.trans HUQ.out).drew
                    have L0 := Lib.hid (hud.cell r0 (fun h => h))
                    have L1 := Lib.hid (hud.cell r1 (fun h => h))
                    have L2 := Lib.hid (hud.cell r2 (fun h => h))
                    have M0 : Hid (wq.drew.cell? ⟨g14, 0, none⟩ = some (.int .i64 f)) := Lib.hid (cell_of_row wq g14 0 _ _ _ HLQ.out)
                    have M1 : Hid (wq.drew.cell? ⟨g14, 1, none⟩ = some (.int .i64 t)) := Lib.hid (cell_of_row wq g14 1 _ _ _ HLQ.out)
                    have M2 : Hid (wq.drew.cell? ⟨g14, 2, none⟩ = some (.string st)) := Lib.hid (cell_of_row wq g14 2 _ _ _ HLQ.out)
                    have HD9 : Hid (SlB wq.drew (.slice A3 xs.length c3) xs) := Lib.hid (DatB.slb (own_base (own_chg hdat hud (fun _ _ h => h)) (Nat.zero_le _)))
                    clear hm2 hm3 hrow r0 r1 r2 hdat hd3 hud
                    have hge : ¬ (N : Int) ≤ (m : Int) := by omega
                    go_wp2_with fail
                    rw [← HWQ.out, ← HGQ.out]
                    refine MT.region_mono Up [fun v _ => v = .int .i64 (m : Int),
                        fun v _ => v = .slice (some ⟨gg, 0, none⟩) N c12,
                        fun v _ => v = .int .i64 (N : Int),
                        fun v _ => v = .bool false,
                        fun v _ => v = .bool false,
                        fun v _ => v = .slice (some ⟨gg, 0, none⟩) N c12,
                        fun v _ => v = .int .i64 (m : Int),
                        fun v _ => v = .pointer (some ⟨gg, m * 3, none⟩),
                        fun v _ => v = .agg #[.int .i64 f, .int .i64 t, .slice A3 xs.length c3],
                        fun v _ => v = .agg #[.int .i64 f, .int .i64 t, .string st],
                        fun v _ => v = .agg #[.int .i64 f, .int .i64 t, .string st],
                        fun v _ => v = .bool false,
                        fun v _ => v = .bool false] (by kernel_rfl) (by kernel_rfl) (Chg.refl _) (fun _ _ _ => Chg.trans) (by simp) ?_ ?_ ?_
                    · simp only [List.forall_mem_cons]
                      exact ⟨fun _ _ _ _ _ h => h, fun _ _ _ _ _ h => h, fun _ _ _ _ _ h => h, fun _ _ _ _ _ h => h, fun _ _ _ _ _ h => h, fun _ _ _ _ _ h => h, fun _ _ _ _ _ h => h, fun _ _ _ _ _ h => h, fun _ _ _ _ _ h => h, fun _ _ _ _ _ h => h, fun _ _ _ _ _ h => h, fun _ _ _ _ _ h => h, fun _ _ _ _ _ h => h, by simp⟩
                    · refine ⟨?_, ?_, ?_, ?_, ?_, ?_, ?_, ?_, ?_, ?_, ?_, ?_, ?_, trivial⟩
                      · intro ρ w1 hw h0 hc hg hf hd
                        have s11 : ρ (.tmp 11) = .int .i64 (m : Int) := h0 11 (by kernel_rfl)
                        refine ⟨fun _ => ?_, fun h => by cases h⟩
                        clear h0 hg hd
                        exact gives_move rfl ⟨Chg.refl _ _, s11⟩
                      · intro ρ w1 hw h0 hc hg hf hd
                        have s12 : ρ (.tmp 12) = .slice (some ⟨gg, 0, none⟩) N c12 := h0 12 (by kernel_rfl)
                        refine ⟨fun _ => ?_, fun h => by cases h⟩
                        clear h0 hg hd
                        exact gives_move rfl ⟨Chg.refl _ _, s12⟩
                      · intro ρ w1 hw h0 hc hg hf hd
                        have d1 := hd ⟨1, .data⟩ (by simp) rfl _ _ _ rfl rfl rfl
                        refine ⟨fun _ => ?_, fun h => by cases h⟩
                        clear h0 hg hd
                        clear hf
                        refine Gives.value (w' := w1) ?_ ⟨Chg.refl _ _, rfl⟩
                        go_simp
                      · intro ρ w1 hw h0 hc hg hf hd
                        have d0 := hd ⟨0, .data⟩ (by simp) rfl _ _ _ rfl rfl rfl
                        have d2 := hd ⟨2, .data⟩ (by simp) rfl _ _ _ rfl rfl rfl
                        refine ⟨fun _ => ?_, fun h => by cases h⟩
                        clear h0 hg hd
                        clear hf
                        refine Gives.value (w' := w1) ?_ ⟨Chg.refl _ _, rfl⟩
                        go_simp
                      · intro ρ w1 hw h0 hc hg hf hd
                        have d3 := hd ⟨3, .data⟩ (by simp) rfl _ _ _ rfl rfl rfl
                        refine ⟨fun _ => ?_, fun h => by cases h⟩
                        clear h0 hg hd
                        exact gives_move rfl ⟨Chg.refl _ _, d3⟩
                      · intro ρ w1 hw h0 hc hg hf hd
                        have d4 := hd ⟨4, .guard⟩ (by simp) rfl _ _ _ rfl rfl rfl
                        have s12 : ρ (.tmp 12) = .slice (some ⟨gg, 0, none⟩) N c12 := h0 12 (by kernel_rfl)
                        refine ⟨fun _ => ?_, fun h => by rw [wantedBy_true rfl rfl rfl d4] at h; cases h⟩
                        clear d4
                        clear h0 hg hd
                        exact gives_move rfl ⟨Chg.refl _ _, s12⟩
                      · intro ρ w1 hw h0 hc hg hf hd
                        have d4 := hd ⟨4, .guard⟩ (by simp) rfl _ _ _ rfl rfl rfl
                        have s11 : ρ (.tmp 11) = .int .i64 (m : Int) := h0 11 (by kernel_rfl)
                        refine ⟨fun _ => ?_, fun h => by rw [wantedBy_true rfl rfl rfl d4] at h; cases h⟩
                        clear d4
                        clear h0 hg hd
                        exact gives_move rfl ⟨Chg.refl _ _, s11⟩
                      · intro ρ w1 hw h0 hc hg hf hd
                        have d5 := hd ⟨5, .data⟩ (by simp) rfl _ _ _ rfl rfl rfl
                        have d6 := hd ⟨6, .data⟩ (by simp) rfl _ _ _ rfl rfl rfl
                        have d4 := hd ⟨4, .guard⟩ (by simp) rfl _ _ _ rfl rfl rfl
                        refine ⟨fun _ => ?_, fun h => by rw [wantedBy_true rfl rfl rfl d4] at h; cases h⟩
                        clear d4
                        clear h0 hg hd
                        clear hf
                        refine Gives.value (w' := w1) ?_ ⟨Chg.refl _ _, rfl⟩
                        go_simp
                      · intro ρ w1 hw h0 hc hg hf hd
                        have d7 := hd ⟨7, .data⟩ (by simp) rfl _ _ _ rfl rfl rfl
                        have d4 := hd ⟨4, .guard⟩ (by simp) rfl _ _ _ rfl rfl rfl
                        refine ⟨fun _ => ?_, fun h => by rw [wantedBy_true rfl rfl rfl d4] at h; cases h⟩
                        clear d4
                        clear h0 hg hd
                        clear hc hf
                        have l0 := hw.cell L0.out (fun h => h)
                        have l1 := hw.cell L1.out (fun h => h)
                        have l2 := hw.cell L2.out (fun h => h)
                        refine Gives.value (w' := w1) ?_ ⟨Chg.refl _ _, rfl⟩
                        go_simp
                      · intro ρ w1 hw h0 hc hg hf hd
                        have d8 := hd ⟨8, .data⟩ (by simp) rfl _ _ _ rfl rfl rfl
                        have d4 := hd ⟨4, .chain⟩ (by simp) rfl _ _ _ rfl rfl rfl
                        refine ⟨fun _ => ?_, fun h => by rw [wantedBy_true rfl rfl rfl d4] at h; cases h⟩
                        clear d4
                        clear h0 hg hd
                        have hcl := ref_any w1 f t (.slice A3 xs.length c3) xs (Src.chg HD9.out hw (fun _ _ _ h => h) (by decide))
                        unfold refV at hcl
                        dsimp only at hcl
                        rw [HST.out] at hcl
                        refine gives_call rfl hf Try.func21 rfl (by kernel_rfl) (args := #[.agg #[.int .i64 f, .int .i64 t, .slice A3 xs.length c3]]) (by simp [hc, d8]) (hcl.mono ?_)
                        rintro e w2 ⟨rfl, hb⟩
                        exact ⟨_, rfl, up_below hb, rfl⟩
                      · intro ρ w1 hw h0 hc hg hf hd
                        have d4 := hd ⟨4, .guard⟩ (by simp) rfl _ _ _ rfl rfl rfl
                        have s14 : ρ (.tmp 14) = .pointer (some ⟨g14, 0, none⟩) := h0 14 (by kernel_rfl)
                        refine ⟨fun _ => ?_, fun h => by rw [wantedBy_true rfl rfl rfl d4] at h; cases h⟩
                        clear d4
                        clear h0 hg hd
                        clear hc hf
                        have l0 := hw.cell M0.out (fun h => h)
                        have l1 := hw.cell M1.out (fun h => h)
                        have l2 := hw.cell M2.out (fun h => h)
                        refine Gives.value (w' := w1) ?_ ⟨Chg.refl _ _, rfl⟩
                        go_simp
                      · intro ρ w1 hw h0 hc hg hf hd
                        have d9 := hd ⟨9, .data⟩ (by simp) rfl _ _ _ rfl rfl rfl
                        have d10 := hd ⟨10, .data⟩ (by simp) rfl _ _ _ rfl rfl rfl
                        have d4 := hd ⟨4, .guard⟩ (by simp) rfl _ _ _ rfl rfl rfl
                        refine ⟨fun _ => ?_, fun h => by rw [wantedBy_true rfl rfl rfl d4] at h; cases h⟩
                        clear d4
                        clear h0 hg hd
                        clear hf
                        have q1 := neq49 f t st w1
                        have q2 := guard49 .neq (.tmp 89) (.tmp 90) f t st w1
                        refine Gives.value (v := .bool false) (w' := w1) ?_ ⟨Chg.refl _ _, rfl⟩
                        unfold execOp
                        simp [d9, d10, q1, q2]
                      · intro ρ w1 hw h0 hc hg hf hd
                        have d4 := hd ⟨4, .data⟩ (by simp) rfl _ _ _ rfl rfl rfl
                        have d11 := hd ⟨11, .data⟩ (by simp) rfl _ _ _ rfl rfl rfl
                        refine ⟨fun _ => ?_, fun h => by cases h⟩
                        clear h0 hg hd
                        clear hf
                        refine Gives.value (w' := w1) ?_ ⟨Chg.refl _ _, rfl⟩
                        go_simp
                    · intro vs w9 hw hr
                      have h12 := hr 12 _ rfl
                      clear hr
                      dsimp only [putsL, restL]
                      simp only [Act.put, List.setIfInBounds_toArray, List.set_cons_zero, List.set_cons_succ]
                      rw [h12]
                      have HU9 := Lib.hid ((HU.out.trans (HUQ.out.trans (Chg.refl _ _).drew)).trans hw)
                      clear hw h12
                      go_wp2_with fail
                      have e1 := filter_next L (keepB a b) k hkk
                      rw [HYE.out, hkeep, if_pos rfl] at e1
                      exact ⟨⟨k + 1, by omega, by rw [e1, HM.out]; go_num, by go_num, HU9.out⟩, by simp [intOf]; omega⟩
                  · have e4 : (t == a) = false := by rw [beq_eq_false_iff_ne]; exact h4
                    clear h1 h3 h4
                    go_wp2_with fail
                    have e1 := filter_next L (keepB a b) k hkk
                    rw [HYE.out, show keepB a b (f, t, xs) = false by unfold keepB betI; simp [*], if_neg (by decide), Nat.add_zero] at e1
                    rw [← HWQ.out]
                    exact ⟨⟨k + 1, by omega, by rw [e1, HM.out]; rfl, by go_num, HU.out.trans HUQ.out⟩, by simp [intOf]; omega⟩
                · have e3 : (f == b) = false := by rw [beq_eq_false_iff_ne]; exact h3
                  clear h1 h3
                  go_wp2_with fail
                  have e1 := filter_next L (keepB a b) k hkk
                  rw [HYE.out, show keepB a b (f, t, xs) = false by unfold keepB betI; simp [*], if_neg (by decide), Nat.add_zero] at e1
                  rw [← HWQ.out]
                  exact ⟨⟨k + 1, by omega, by rw [e1, HM.out]; rfl, by go_num, HU.out.trans HUQ.out⟩, by simp [intOf]; omega⟩
            · have e1 : (f == a) = false := by rw [beq_eq_false_iff_ne]; exact h1
              by_cases h3 : f = b
              · have e3 : (f == b) = true := by rw [beq_iff_eq]; exact h3
                by_cases h4 : t = a
                · have e4 : (t == a) = true := by rw [beq_iff_eq]; exact h4
                  clear h1 h3 h4
                  have hkeep : keepB a b (f, t, xs) = true := by unfold keepB betI; simp [*]
                  obtain ⟨hm1, hm2⟩ := filter_at L (keepB a b) k hkk (by rw [HYE.out]; exact hkeep)
                  rw [HM.out, HN.out] at hm1
                  rw [HM.out, HYE.out] at hm2
                  obtain ⟨gg, rfl⟩ : ∃ g, G12 = some ⟨g, 0, none⟩ := by
                    rcases HG.out.2.1.2 with ⟨_, hz⟩ | ⟨g, cap, cur, he, _⟩
                    · rw [HN.out] at hz; omega
                    · injection he with e1; exact ⟨g, e1⟩
                  have hm3 : m < (L.filter (keepB a b)).length := by rw [HN.out]; exact hm1
                  have hrow := HG.out.2.1
                  obtain ⟨r0, r1, r2⟩ := row_cells (by rw [HN.out] at hrow; exact hrow) HG.out.1 m hm3
                  have hdat := HG.out.2.2 m hm3
                  rw [hm2] at r0 r1 hdat
                  dsimp only at r0 r1 hdat
                  obtain ⟨A3, c3, hd3⟩ := own_shape hdat
                  rw [hd3] at r2 hdat
                  have hud : Up W3 wq.drew := (HU.out.trans HUQ.out).drew
                  have L0 := Lib.hid (hud.cell r0 (fun h => h))
                  have L1 := Lib.hid (hud.cell r1 (fun h => h))
                  have L2 := Lib.hid (hud.cell r2 (fun h => h))
                  have M0 : Hid (wq.drew.cell? ⟨g14, 0, none⟩ = some (.int .i64 f)) := Lib.hid (cell_of_row wq g14 0 _ _ _ HLQ.out)
                  have M1 : Hid (wq.drew.cell? ⟨g14, 1, none⟩ = some (.int .i64 t)) := Lib.hid (cell_of_row wq g14 1 _ _ _ HLQ.out)
                  have M2 : Hid (wq.drew.cell? ⟨g14, 2, none⟩ = some (.string st)) := Lib.hid (cell_of_row wq g14 2 _ _ _ HLQ.out)
                  have HD9 : Hid (SlB wq.drew (.slice A3 xs.length c3) xs) := Lib.hid (DatB.slb (own_base (own_chg hdat hud (fun _ _ h => h)) (Nat.zero_le _)))
                  clear hm2 hm3 hrow r0 r1 r2 hdat hd3 hud
                  have hge : ¬ (N : Int) ≤ (m : Int) := by omega
                  go_wp2_with fail
                  rw [← HWQ.out, ← HGQ.out]
                  refine MT.region_mono Up [fun v _ => v = .int .i64 (m : Int),
                      fun v _ => v = .slice (some ⟨gg, 0, none⟩) N c12,
                      fun v _ => v = .int .i64 (N : Int),
                      fun v _ => v = .bool false,
                      fun v _ => v = .bool false,
                      fun v _ => v = .slice (some ⟨gg, 0, none⟩) N c12,
                      fun v _ => v = .int .i64 (m : Int),
                      fun v _ => v = .pointer (some ⟨gg, m * 3, none⟩),
                      fun v _ => v = .agg #[.int .i64 f, .int .i64 t, .slice A3 xs.length c3],
                      fun v _ => v = .agg #[.int .i64 f, .int .i64 t, .string st],
                      fun v _ => v = .agg #[.int .i64 f, .int .i64 t, .string st],
                      fun v _ => v = .bool false,
                      fun v _ => v = .bool false] (by kernel_rfl) (by kernel_rfl) (Chg.refl _) (fun _ _ _ => Chg.trans) (by simp) ?_ ?_ ?_
                  · simp only [List.forall_mem_cons]
                    exact ⟨fun _ _ _ _ _ h => h, fun _ _ _ _ _ h => h, fun _ _ _ _ _ h => h, fun _ _ _ _ _ h => h, fun _ _ _ _ _ h => h, fun _ _ _ _ _ h => h, fun _ _ _ _ _ h => h, fun _ _ _ _ _ h => h, fun _ _ _ _ _ h => h, fun _ _ _ _ _ h => h, fun _ _ _ _ _ h => h, fun _ _ _ _ _ h => h, fun _ _ _ _ _ h => h, by simp⟩
                  · refine ⟨?_, ?_, ?_, ?_, ?_, ?_, ?_, ?_, ?_, ?_, ?_, ?_, ?_, trivial⟩
                    · intro ρ w1 hw h0 hc hg hf hd
                      have s11 : ρ (.tmp 11) = .int .i64 (m : Int) := h0 11 (by kernel_rfl)
                      refine ⟨fun _ => ?_, fun h => by cases h⟩
                      clear h0 hg hd
                      exact gives_move rfl ⟨Chg.refl _ _, s11⟩
                    · intro ρ w1 hw h0 hc hg hf hd
                      have s12 : ρ (.tmp 12) = .slice (some ⟨gg, 0, none⟩) N c12 := h0 12 (by kernel_rfl)
                      refine ⟨fun _ => ?_, fun h => by cases h⟩
                      clear h0 hg hd
                      exact gives_move rfl ⟨Chg.refl _ _, s12⟩
                    · intro ρ w1 hw h0 hc hg hf hd
                      have d1 := hd ⟨1, .data⟩ (by simp) rfl _ _ _ rfl rfl rfl
                      refine ⟨fun _ => ?_, fun h => by cases h⟩
                      clear h0 hg hd
                      clear hf
                      refine Gives.value (w' := w1) ?_ ⟨Chg.refl _ _, rfl⟩
                      go_simp
                    · intro ρ w1 hw h0 hc hg hf hd
                      have d0 := hd ⟨0, .data⟩ (by simp) rfl _ _ _ rfl rfl rfl
                      have d2 := hd ⟨2, .data⟩ (by simp) rfl _ _ _ rfl rfl rfl
                      refine ⟨fun _ => ?_, fun h => by cases h⟩
                      clear h0 hg hd
                      clear hf
                      refine Gives.value (w' := w1) ?_ ⟨Chg.refl _ _, rfl⟩
                      go_simp
                    · intro ρ w1 hw h0 hc hg hf hd
                      have d3 := hd ⟨3, .data⟩ (by simp) rfl _ _ _ rfl rfl rfl
                      refine ⟨fun _ => ?_, fun h => by cases h⟩
                      clear h0 hg hd
                      exact gives_move rfl ⟨Chg.refl _ _, d3⟩
                    · intro ρ w1 hw h0 hc hg hf hd
                      have d4 := hd ⟨4, .guard⟩ (by simp) rfl _ _ _ rfl rfl rfl
                      have s12 : ρ (.tmp 12) = .slice (some ⟨gg, 0, none⟩) N c12 := h0 12 (by kernel_rfl)
                      refine ⟨fun _ => ?_, fun h => by rw [wantedBy_true rfl rfl rfl d4] at h; cases h⟩
                      clear d4
                      clear h0 hg hd
                      exact gives_move rfl ⟨Chg.refl _ _, s12⟩
                    · intro ρ w1 hw h0 hc hg hf hd
                      have d4 := hd ⟨4, .guard⟩ (by simp) rfl _ _ _ rfl rfl rfl
                      have s11 : ρ (.tmp 11) = .int .i64 (m : Int) := h0 11 (by kernel_rfl)
                      refine ⟨fun _ => ?_, fun h => by rw [wantedBy_true rfl rfl rfl d4] at h; cases h⟩
                      clear d4
                      clear h0 hg hd
                      exact gives_move rfl ⟨Chg.refl _ _, s11⟩
                    · intro ρ w1 hw h0 hc hg hf hd
                      have d5 := hd ⟨5, .data⟩ (by simp) rfl _ _ _ rfl rfl rfl
                      have d6 := hd ⟨6, .data⟩ (by simp) rfl _ _ _ rfl rfl rfl
                      have d4 := hd ⟨4, .guard⟩ (by simp) rfl _ _ _ rfl rfl rfl
                      refine ⟨fun _ => ?_, fun h => by rw [wantedBy_true rfl rfl rfl d4] at h; cases h⟩
                      clear d4
                      clear h0 hg hd
                      clear hf
                      refine Gives.value (w' := w1) ?_ ⟨Chg.refl _ _, rfl⟩
                      go_simp
                    · intro ρ w1 hw h0 hc hg hf hd
                      have d7 := hd ⟨7, .data⟩ (by simp) rfl _ _ _ rfl rfl rfl
                      have d4 := hd ⟨4, .guard⟩ (by simp) rfl _ _ _ rfl rfl rfl
                      refine ⟨fun _ => ?_, fun h => by rw [wantedBy_true rfl rfl rfl d4] at h; cases h⟩
                      clear d4
                      clear h0 hg hd
                      clear hc hf
                      have l0 := hw.cell L0.out (fun h => h)
                      have l1 := hw.cell L1.out (fun h => h)
                      have l2 := hw.cell L2.out (fun h => h)
                      refine Gives.value (w' := w1) ?_ ⟨Chg.refl _ _, rfl⟩
                      go_simp
                    · intro ρ w1 hw h0 hc hg hf hd
                      have d8 := hd ⟨8, .data⟩ (by simp) rfl _ _ _ rfl rfl rfl
                      have d4 := hd ⟨4, .chain⟩ (by simp) rfl _ _ _ rfl rfl rfl
                      refine ⟨fun _ => ?_, fun h => by rw [wantedBy_true rfl rfl rfl d4] at h; cases h⟩
                      clear d4
                      clear h0 hg hd
                      have hcl := ref_any w1 f t (.slice A3 xs.length c3) xs (Src.chg HD9.out hw (fun _ _ _ h => h) (by decide))
                      unfold refV at hcl
                      dsimp only at hcl
                      rw [HST.out] at hcl
                      refine gives_call rfl hf Try.func21 rfl (by kernel_rfl) (args := #[.agg #[.int .i64 f, .int .i64 t, .slice A3 xs.length c3]]) (by simp [hc, d8]) (hcl.mono ?_)
                      rintro e w2 ⟨rfl, hb⟩
                      exact ⟨_, rfl, up_below hb, rfl⟩
                    · intro ρ w1 hw h0 hc hg hf hd
                      have d4 := hd ⟨4, .guard⟩ (by simp) rfl _ _ _ rfl rfl rfl
                      have s14 : ρ (.tmp 14) = .pointer (some ⟨g14, 0, none⟩) := h0 14 (by kernel_rfl)
                      refine ⟨fun _ => ?_, fun h => by rw [wantedBy_true rfl rfl rfl d4] at h; cases h⟩
                      clear d4
                      clear h0 hg hd
                      clear hc hf
                      have l0 := hw.cell M0.out (fun h => h)
                      have l1 := hw.cell M1.out (fun h => h)
                      have l2 := hw.cell M2.out (fun h => h)
                      refine Gives.value (w' := w1) ?_ ⟨Chg.refl _ _, rfl⟩
                      go_simp
                    · intro ρ w1 hw h0 hc hg hf hd
                      have d9 := hd ⟨9, .data⟩ (by simp) rfl _ _ _ rfl rfl rfl
                      have d10 := hd ⟨10, .data⟩ (by simp) rfl _ _ _ rfl rfl rfl
                      have d4 := hd ⟨4, .guard⟩ (by simp) rfl _ _ _ rfl rfl rfl
                      refine ⟨fun _ => ?_, fun h => by rw [wantedBy_true rfl rfl rfl d4] at h; cases h⟩
                      clear d4
                      clear h0 hg hd
                      clear hf
                      have q1 := neq49 f t st w1
                      have q2 := guard49 .neq (.tmp 89) (.tmp 90) f t st w1
                      refine Gives.value (v := .bool false) (w' := w1) ?_ ⟨Chg.refl _ _, rfl⟩
                      unfold execOp
                      simp [d9, d10, q1, q2]
                    · intro ρ w1 hw h0 hc hg hf hd
                      have d4 := hd ⟨4, .data⟩ (by simp) rfl _ _ _ rfl rfl rfl
                      have d11 := hd ⟨11, .data⟩ (by simp) rfl _ _ _ rfl rfl rfl
                      refine ⟨fun _ => ?_, fun h => by cases h⟩
                      clear h0 hg hd
                      clear hf
                      refine Gives.value (w' := w1) ?_ ⟨Chg.refl _ _, rfl⟩
                      go_simp
                  · intro vs w9 hw hr
                    have h12 := hr 12 _ rfl
                    clear hr
                    dsimp only [putsL, restL]
                    simp only [Act.put, List.setIfInBounds_toArray, List.set_cons_zero, List.set_cons_succ]
                    rw [h12]
                    have HU9 := Lib.hid ((HU.out.trans (HUQ.out.trans (Chg.refl _ _).drew)).trans hw)
                    clear hw h12
                    go_wp2_with fail
                    have e1 := filter_next L (keepB a b) k hkk
                    rw [HYE.out, hkeep, if_pos rfl] at e1
                    exact ⟨⟨k + 1, by omega, by rw [e1, HM.out]; go_num, by go_num, HU9.out⟩, by simp [intOf]; omega⟩
                · have e4 : (t == a) = false := by rw [beq_eq_false_iff_ne]; exact h4
                  clear h1 h3 h4
                  go_wp2_with fail
                  have e1 := filter_next L (keepB a b) k hkk
                  rw [HYE.out, show keepB a b (f, t, xs) = false by unfold keepB betI; simp [*], if_neg (by decide), Nat.add_zero] at e1
                  rw [← HWQ.out]
                  exact ⟨⟨k + 1, by omega, by rw [e1, HM.out]; rfl, by go_num, HU.out.trans HUQ.out⟩, by simp [intOf]; omega⟩
              · have e3 : (f == b) = false := by rw [beq_eq_false_iff_ne]; exact h3
                clear h1 h3
                go_wp2_with fail
                have e1 := filter_next L (keepB a b) k hkk
                rw [HYE.out, show keepB a b (f, t, xs) = false by unfold keepB betI; simp [*], if_neg (by decide), Nat.add_zero] at e1
                rw [← HWQ.out]
                exact ⟨⟨k + 1, by omega, by rw [e1, HM.out]; rfl, by go_num, HU.out.trans HUQ.out⟩, by simp [intOf]; omega⟩
          · obtain rfl : k = L.length := by omega
            rw [List.take_length, HN.out]
            have hu' := HU3.out.trans hu
            have HSAME := Lib.hid (same_any wr p lv ds L S1 (HNET.out.up hu') (by omega) (fun j hj => HFW1.out.at_ j hj) 0 _ (own_chg HX.out hu' (fun _ _ h => h)))
            have HCF := Lib.hid (HCH.out.then hu' (fun i hi => hi.elim))
            clear hu hu'
            go_wp2_with fail
            refine HSAME.out.mono ?_
            rintro e W8 ⟨rfl, hb8⟩
            have HCF8 := Lib.hid (HCF.out.then (up_below hb8) (fun i hi => hi.elim))
            have HAW := Lib.hid (awake_any W8)
            clear hb8
            go_wp2_with fail
            refine HAW.out.mono ?_
            rintro e W10 ⟨rfl, hb10⟩
            have HB10 := Lib.hid hb10
            clear hb10
            go_wp2_with fail
            go_ret
            exact ⟨rfl, (HCF8.out.below (Nat.le_refl _) (fun i hi => hi)).trans (HB10.out.mono HCF8.out.size)⟩
end Go.Proofs.Ytofmblkmfbioiaa
