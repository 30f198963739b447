/-
  The document's disk: Flush, Tamper, Crash, walked.
-/
import Derived.Test.YtkndnlhlglgmfaaE21
namespace Go.Proofs.Ytkndnlhlglgmfaa
open Go.RowKit
theorem commI_w16 {x : Dk} {k : Nat} (h : W16 x k) : W16 (commI x).1 (k + 1) := ⟨h.wf.comm, by rw [commI_has]; exact h.num, by rw [commI_size]; exact h.size⟩
set_option maxRecDepth 100000 in
set_option maxHeartbeats 4000000 in
theorem xflush (w : World) (p : Nat) (sv1 sv2 : Value) (x : Dk) (k : Nat) (h : RefX w p sv1 sv2 x) (hw : W16 x k) (hk : k ≤ 90000) : Calls Try.prog 70 #[.pointer (some ⟨p, 0, none⟩)] w (XPost w p sv1 sv2 (flushI x).1 (flushI x).2) := by
  obtain ⟨L, ar, hF, hL1, hL2⟩ := h
  have q6 := hF.c6
  have HX : Hid (RefX w p sv1 sv2 x) := Lib.hid ⟨L, ar, hF, hL1, hL2⟩
  have HW := Lib.hid hw
  clear hF hL1 hL2
  unfold flushI
  cases hdn : x.down with
  | true =>
    rw [hdn] at q6
    rw [if_pos rfl]
    clear hw hdn
    go_enter Try.func70, Try.ntmps70
    go_wp2_with fail
    go_ret
    exact ⟨rfl, HX.out, Chg.refl _ _⟩
  | false =>
    rw [hdn] at q6
    rw [if_neg (by simp)]
    have HCM := Lib.hid (xcomm w p sv1 sv2 x k HX.out hw.wf (by omega))
    have HW2 := Lib.hid (commI_w16 hw)
    obtain ⟨y, hy⟩ : ∃ y, (commI x).1 = y := ⟨_, rfl⟩
    obtain ⟨r, hr⟩ : ∃ r, (commI x).2 = r := ⟨_, rfl⟩
    have hpair : commI x = (y, r) := by rw [← hy, ← hr]
    rw [hpair] at HCM HW2 ⊢
    dsimp only at HCM HW2 ⊢
    clear hw hy hr hpair hdn
    by_cases h0 : r = 0
    · rw [if_pos h0]
      rw [h0] at HCM
      go_enter Try.func70, Try.ntmps70
      go_wp2_with fail
      refine HCM.out.mono ?_
      rintro e w1 ⟨rfl, hx1, hc1⟩
      have HST := Lib.hid (xsettle w1 p sv1 sv2 y _ hx1 HW2.out)
      have HC1 := Lib.hid hc1
      clear hx1 hc1 HCM
      go_wp2_with fail
      refine HST.out.mono ?_
      rintro e w2 ⟨⟨u, rfl⟩, hx2, hc2⟩
      go_wp2_with fail
      go_ret
      exact ⟨rfl, hx2, HC1.out.trans hc2⟩
    · rw [if_neg h0]
      have h0' : (r == 0) = false := by rw [beq_eq_false_iff_ne]; exact h0
      go_enter Try.func70, Try.ntmps70
      go_wp2_with fail
      refine HCM.out.mono ?_
      rintro e w1 ⟨rfl, hx1, hc1⟩
      go_wp2_with fail
      go_ret
      exact ⟨rfl, hx1, hc1⟩
set_option maxRecDepth 100000 in
set_option maxHeartbeats 4000000 in
theorem xtamper (w : World) (p : Nat) (sv1 sv2 : Value) (x : Dk) (k : Nat) (h : RefX w p sv1 sv2 x) (hw : W16 x k) (i : Int) (hi : I64 i) (d : Value) (xs : List Int) (hd : SlB w d xs) : Calls Try.prog 71 #[.pointer (some ⟨p, 0, none⟩), .int .i64 i, d] w (XPost w p sv1 sv2 (tamperI x i xs).1 (tamperI x i xs).2) := by
  obtain ⟨A1, cc1, rfl, hx1, hx2⟩ := hd.shape
  obtain ⟨n, hn⟩ : ∃ n, x.has.length = n := ⟨_, rfl⟩
  obtain ⟨L, ar, hF, hL1, hL2⟩ := h
  have hnum := hw.num
  have hnb := hw.wf.num
  rw [hn] at hF hnum hnb
  obtain ⟨g1, c1, rfl⟩ := own_some hF.r1 hnum
  obtain ⟨g2, c2, rfl⟩ := own_some hF.r2 hnum
  have q0 := hF.c0
  have q1 := hF.c1
  have q2 := hF.c2
  have q6 := hF.c6
  have HF := Lib.hid hF
  have HN := Lib.hid hn
  have HW := Lib.hid hw
  have HL : Hid ((ar = true → L = x.left ∧ 0 ≤ L) ∧ (ar = false → x.left = -1)) := Lib.hid ⟨hL1, hL2⟩
  have HDD := Lib.hid hd
  obtain ⟨hiI1, hiI2⟩ := hi
  unfold tamperI
  by_cases h1 : i < 0
  · rw [show checkI x i xs.length = 11 by unfold checkI; rw [hn, if_pos (.inl h1)], if_pos (by decide)]
    clear hd hF hw hL1 hL2 hn
    go_enter Try.func71, Try.ntmps71
    go_wp2_with fail
    go_ret
    exact ⟨rfl, ⟨L, ar, by rw [HN.out]; exact HF.out, HL.out⟩, Chg.refl _ _⟩
  by_cases h2 : (n : Int) ≤ i
  · rw [show checkI x i xs.length = 11 by unfold checkI; rw [hn, if_pos (.inr h2)], if_pos (by decide)]
    clear hd hF hw hL1 hL2 hn
    go_enter Try.func71, Try.ntmps71
    go_wp2_with fail
    go_ret
    exact ⟨rfl, ⟨L, ar, by rw [HN.out]; exact HF.out, HL.out⟩, Chg.refl _ _⟩
  by_cases h3 : xs.length ≠ x.size
  · have h3' : ((xs.length : Int) != (x.size : Int)) = true := by rw [bne_iff_ne]; omega
    rw [show checkI x i xs.length = 10 by unfold checkI; rw [hn, if_neg (by omega), if_pos h3], if_pos (by decide)]
    clear hd hF hw hL1 hL2 hn
    go_enter Try.func71, Try.ntmps71
    go_wp2_with fail
    go_ret
    exact ⟨rfl, ⟨L, ar, by rw [HN.out]; exact HF.out, HL.out⟩, Chg.refl _ _⟩
  · have h3' : ((xs.length : Int) != (x.size : Int)) = false := by rw [bne_eq_false_iff_eq]; omega
    rw [show checkI x i xs.length = 0 by unfold checkI; rw [hn, if_neg (by omega), if_neg h3], if_neg (by decide)]
    obtain ⟨i, rfl⟩ : ∃ j : Nat, i = j := ⟨i.toNat, by omega⟩
    rw [Int.toNat_natCast]
    have HC : Hid (w.drew.cell? ⟨p, 0, none⟩ = some (.slice (some ⟨g1, 0, none⟩) n c1)) := Lib.hid q0
    obtain ⟨s1, hs1⟩ : ∃ s, strOfNums xs = s := ⟨_, rfl⟩
    have HS1 := Lib.hid hs1
    have HDD : Hid (SlB w.drew (.slice A1 xs.length cc1) xs) := HDD
    clear hd hF hw hL1 hL2 hn hs1 h1 h3
    go_enter Try.func71, Try.ntmps71
    go_wp2_with fail
    clear q0 q1 q2 q6
    refine MT.region_mono Up [fun v _ => v = .pointer (some ⟨p, 0, none⟩),
        fun v _ => v = .pointer (some ⟨p, 0, none⟩),
        fun v _ => v = .pointer (some ⟨p, 0, none⟩),
        fun v _ => v = .slice (some ⟨g1, 0, none⟩) n c1,
        fun v _ => v = .int .i64 (i : Int),
        fun v _ => v = .slice A1 xs.length cc1,
        fun v _ => v = .string s1,
        fun v _ => v = .pointer (some ⟨g1, i, none⟩)] (by kernel_rfl) (by kernel_rfl) (Chg.refl _) (fun _ _ _ => Chg.trans) (by simp) ?_ ?_ ?_
    · simp only [List.forall_mem_cons]
      exact ⟨fun _ _ _ _ _ h => h, fun _ _ _ _ _ h => h, fun _ _ _ _ _ h => h, fun _ _ _ _ _ h => h, fun _ _ _ _ _ h => h, fun _ _ _ _ _ h => h, fun _ _ _ _ _ h => h, fun _ _ _ _ _ h => h, by simp⟩
    · refine ⟨?_, ?_, ?_, ?_, ?_, ?_, ?_, ?_, trivial⟩
      · intro ρ w1 hw h0 hc hg hf hd
        have s0 : ρ (.tmp 0) = .pointer (some ⟨p, 0, none⟩) := h0 0 (by kernel_rfl)
        refine ⟨fun _ => ?_, fun h => by cases h⟩
        clear h0 hg hd
        exact gives_move rfl ⟨Chg.refl _ _, s0⟩
      · intro ρ w1 hw h0 hc hg hf hd
        have d0 := hd ⟨0, .data⟩ (by simp) rfl _ _ _ rfl rfl rfl
        refine ⟨fun _ => ?_, fun h => by cases h⟩
        clear h0 hg hd
        clear hf
        refine Gives.value (w' := w1) ?_ ⟨Chg.refl _ _, rfl⟩
        go_simp
      · intro ρ w1 hw h0 hc hg hf hd
        have d1 := hd ⟨1, .data⟩ (by simp) rfl _ _ _ rfl rfl rfl
        refine ⟨fun _ => ?_, fun h => by cases h⟩
        clear h0 hg hd
        clear hf hc
        refine Gives.value (w' := w1) ?_ ⟨Chg.refl _ _, rfl⟩
        go_simp
      · intro ρ w1 hw h0 hc hg hf hd
        have d2 := hd ⟨2, .data⟩ (by simp) rfl _ _ _ rfl rfl rfl
        refine ⟨fun _ => ?_, fun h => by cases h⟩
        clear h0 hg hd
        clear hc hf
        have c1 := hw.cell HC.out (fun h => h)
        refine Gives.value (w' := w1) ?_ ⟨Chg.refl _ _, rfl⟩
        go_simp
      · intro ρ w1 hw h0 hc hg hf hd
        have s1 : ρ (.tmp 1) = .int .i64 (i : Int) := h0 1 (by kernel_rfl)
        refine ⟨fun _ => ?_, fun h => by cases h⟩
        clear h0 hg hd
        exact gives_move rfl ⟨Chg.refl _ _, s1⟩
      · intro ρ w1 hw h0 hc hg hf hd
        have s2 : ρ (.tmp 2) = .slice A1 xs.length cc1 := h0 2 (by kernel_rfl)
        refine ⟨fun _ => ?_, fun h => by cases h⟩
        clear h0 hg hd
        exact gives_move rfl ⟨Chg.refl _ _, s2⟩
      · intro ρ w1 hw h0 hc hg hf hd
        have d5 := hd ⟨5, .data⟩ (by simp) rfl _ _ _ rfl rfl rfl
        refine ⟨fun _ => ?_, fun h => by cases h⟩
        clear h0 hg hd
        rw [← HS1.out]
        exact gives_string rfl (by rw [d5]; exact Src.chg HDD.out hw (fun _ _ _ h => h) (by decide)) ⟨Chg.refl _ _, rfl⟩
      · intro ρ w1 hw h0 hc hg hf hd
        have d3 := hd ⟨3, .data⟩ (by simp) rfl _ _ _ rfl rfl rfl
        have d4 := hd ⟨4, .data⟩ (by simp) rfl _ _ _ rfl rfl rfl
        refine ⟨fun _ => ?_, fun h => by cases h⟩
        clear h0 hg hd
        clear hf
        refine Gives.value (w' := w1) ?_ ⟨Chg.refl _ _, rfl⟩
        go_simp
    · intro vs w2 hw hr
      have h6 := hr 6 _ rfl
      have h7 := hr 7 _ rfl
      clear hr
      dsimp only [putsL, restL]
      simp only [Act.put, List.setIfInBounds_toArray, List.set_cons_zero, List.set_cons_succ]
      simp only [Nat.zero_add, Nat.reduceAdd]
      rw [h6, h7]
      have hu2 : Up w w2 := (Chg.refl (fun _ => False) w).drew.trans hw
      have k2 := HF.out.up hu2
      have f1 : w2.frozen? ⟨g1, i, none⟩ = false := World.ownsRow.frozenAt k2.r1 i
      have z1 := row_at k2.r1 i (by omega)
      have k3 := k2.set1 i xs
      rw [HS1.out] at k3
      have q3 := k3.c1
      have f3 : (w2.setCell ⟨g1, i, none⟩ (.string s1)).frozen? ⟨g2, i, none⟩ = false := World.ownsRow.frozenAt k3.r2 i
      have z3 := row_at k3.r2 i (by omega)
      have HK4 := Lib.hid (k3.set2 i [])
      have HC4 : Hid (Chg (OwnR p (.slice (some ⟨g1, 0, none⟩) n c1) (.slice (some ⟨g2, 0, none⟩) n c2)) w ((w2.setCell ⟨g1, i, none⟩ (.string s1)).setCell ⟨g2, i, none⟩ (.string (strOfNums [])))) := Lib.hid (((hu2.mono (fun _ _ h => h.elim)).setCell ⟨g1, i, none⟩ (.inl (.inr (.inl rfl))) _).setCell ⟨g2, i, none⟩ (.inl (.inr (.inr rfl))) _)
      clear hw h6 h7 hu2 k2 k3
      go_wp2_with fail
      go_ret
      refine ⟨rfl, ⟨L, ar, ?_, HL.out⟩, HC4.out⟩
      show RefF _ _ _ _ (x.has.set i xs).length _ _ _ _ _ _ _
      rw [List.length_set, HN.out]
      refine HK4.out.congr (fun j hj => ?_) (fun j hj => ?_)
      · unfold updN hasF
        dsimp only
        by_cases e : j = i
        · subst e
          rw [if_pos rfl, List.getD_eq_getElem?_getD, List.getElem?_set_self (by rw [HN.out]; exact hj)]; rfl
        · rw [if_neg e, List.getD_eq_getElem?_getD, List.getD_eq_getElem?_getD, List.getElem?_set_ne (fun h => e h.symm)]
      · unfold updN caF updI
        dsimp only
        by_cases e : j = i
        · subst e; simp
        · simp [e, show ¬ (j : Int) = i by omega]
def lostC (x : Dk) (zs : List Int) (k : Nat) (j : Nat) : List Int := ((dropAll x.ca (zs.take k)) (j : Nat)).getD []
theorem lost_skip (x : Dk) (zs : List Int) (k n : Nat) (hk : k < zs.length) (h : zs.getD k 0 < 0 ∨ (n : Int) ≤ zs.getD k 0) (j : Nat) (hj : j < n) : lostC x zs k j = lostC x zs (k + 1) j := by
  unfold lostC
  rw [dropAll_take _ _ _ hk]
  unfold updI
  rw [if_neg (by omega)]
theorem lost_step (x : Dk) (zs : List Int) (k z : Nat) (hk : k < zs.length) (h : zs.getD k 0 = z) (j : Nat) : updN (lostC x zs k) z [] j = lostC x zs (k + 1) j := by
  unfold lostC updN
  rw [dropAll_take _ _ _ hk]
  unfold updI
  rw [h]
  by_cases e : j = z
  · subst e; simp
  · rw [if_neg e, if_neg (by omega)]
theorem W16.lose {x : Dk} {k : Nat} (h : W16 x k) (zs : List Int) : W16 { x with ca := dropAll x.ca zs } k := by
  refine ⟨⟨h.wf.left, h.wf.done, h.wf.num, h.wf.size, h.wf.has, ?_⟩, h.num, h.size⟩
  suffices ∀ (zs : List Int) (ca : Int → Option (List Int)), (∀ i xs, ca i = some xs → xs.length = x.size ∧ 0 ≤ i ∧ i < x.has.length) → ∀ i xs, dropAll ca zs i = some xs → xs.length = x.size ∧ 0 ≤ i ∧ i < x.has.length from this zs x.ca h.wf.ca
  intro zs
  induction zs with
  | nil => intro ca hca; exact hca
  | cons z zs ih =>
    intro ca hca
    refine ih (updI ca z none) (fun i xs hi => ?_)
    unfold updI at hi
    split at hi
    · cases hi
    · exact hca i xs hi
set_option maxRecDepth 100000 in
set_option maxHeartbeats 4000000 in
theorem xcrash (w : World) (p : Nat) (sv1 sv2 : Value) (x : Dk) (k : Nat) (h : RefX w p sv1 sv2 x) (hw : W16 x k) (v : Value) (zs : List Int) (hv : SlI w v zs) (hzn : zs.length ≤ 100000) (hsep : ∀ g, Value.blk v = some g → 0 < zs.length → ¬ OwnR p sv1 sv2 g) :
    Calls Try.prog 43 #[.pointer (some ⟨p, 0, none⟩), v] w (fun e w' => (∃ u, e = .returned u) ∧ RefX w' p sv1 sv2 (crashI x zs) ∧ Chg (OwnR p sv1 sv2) w w') := by
  obtain ⟨A, cc, rfl, hc1, hc2⟩ := hv.shape
  obtain ⟨n, hn⟩ : ∃ n, x.has.length = n := ⟨_, rfl⟩
  obtain ⟨L, ar, hF, hL1, hL2⟩ := h
  have hnum := hw.num
  have hnb := hw.wf.num
  rw [hn] at hF hnum hnb
  obtain ⟨g1, c1, rfl⟩ := own_some hF.r1 hnum
  obtain ⟨g2, c2, rfl⟩ := own_some hF.r2 hnum
  have H0 := Lib.hid hF
  have HN := Lib.hid hn
  have HW := Lib.hid hw
  have HV := Lib.hid hv
  have HSEP := Lib.hid hsep
  have HL : Hid ((ar = true → L = x.left ∧ 0 ≤ L) ∧ (ar = false → x.left = -1)) := Lib.hid ⟨hL1, hL2⟩
  clear hF hn hw hv hsep hL1 hL2
  go_enter Try.func43, Try.ntmps43
  go_wp2_with fail
  go_loopw [4] (fun t wr => ∃ i : Nat, i ≤ zs.length ∧ t = .int .i64 i ∧ RefF wr p (.slice (some ⟨g1, 0, none⟩) n c1) (.slice (some ⟨g2, 0, none⟩) n c2) n x.size L x.done ar x.down (hasF x) (lostC x zs i) ∧ Chg (OwnR p (.slice (some ⟨g1, 0, none⟩) n c1) (.slice (some ⟨g2, 0, none⟩) n c2)) w wr) (fun t _ => zs.length - (intOf t).toNat)
  case atStart => exact ⟨0, by omega, rfl, H0.out, Chg.refl _ _⟩
  case round =>
    rename World => wr
    obtain ⟨i, hi, rfl, hd, hch⟩ := hrel
    have HD := Lib.hid hd
    have HCH := Lib.hid hch
    by_cases hk2 : (i : Int) < zs.length
    · have hv2 := Src.chg HV.out hch (fun g hg h0 => HSEP.out g hg h0) (by decide)
      obtain ⟨bb, off, cc', he, _, _, hcell⟩ := hv2.form (by simp [i64s]; omega)
      injection he with e1 e2 e3
      subst e1 e3
      have hz := hcell i _ (i64s_at (show i < zs.length by omega))
      obtain ⟨z, hze⟩ : ∃ z, zs.getD i 0 = z := ⟨_, rfl⟩
      rw [hze] at hz
      have HZE := Lib.hid hze
      have HZ : Hid (wr.drew.cell? ⟨bb, off + i, none⟩ = some (.int .i64 z)) := Lib.hid hz
      have HC0 : Hid (wr.drew.cell? ⟨p, 0, none⟩ = some (.slice (some ⟨g1, 0, none⟩) n c1)) := Lib.hid hd.c0
      have HC1 : Hid (wr.drew.cell? ⟨p, 1, none⟩ = some (.slice (some ⟨g2, 0, none⟩) n c2)) := Lib.hid hd.c1
      clear hd hch hv2 hcell hz hze
      by_cases hz0 : 0 ≤ z
      · by_cases hz1 : z < n
        · obtain ⟨z, rfl⟩ : ∃ j : Nat, z = j := ⟨z.toNat, by omega⟩
          have HST := Lib.hid (lost_step x zs i z (by omega) HZE.out)
          go_wp2_with fail
          refine MT.region_mono Up [fun v _ => v = .slice (some ⟨bb, off, none⟩) zs.length cc,
              fun v _ => v = .int .i64 (i : Int),
              fun v _ => v = .pointer (some ⟨bb, off + i, none⟩),
              fun v _ => v = .int .i64 z,
              fun v _ => v = .bool true,
              fun v _ => v = .bool true,
              fun v _ => v = .slice (some ⟨bb, off, none⟩) zs.length cc,
              fun v _ => v = .int .i64 (i : Int),
              fun v _ => v = .pointer (some ⟨bb, off + i, none⟩),
              fun v _ => v = .int .i64 z,
              fun v _ => v = .pointer (some ⟨p, 0, none⟩),
              fun v _ => v = .pointer (some ⟨p, 0, none⟩),
              fun v _ => v = .pointer (some ⟨p, 0, none⟩),
              fun v _ => v = .slice (some ⟨g1, 0, none⟩) n c1,
              fun v _ => v = .int .i64 (n : Int),
              fun v _ => v = .bool true,
              fun v _ => v = .bool true] (by kernel_rfl) (by kernel_rfl) (Chg.refl _) (fun _ _ _ => Chg.trans) (by simp) ?_ ?_ ?_
          · simp only [List.forall_mem_cons]
            exact ⟨fun _ _ _ _ _ h => h, fun _ _ _ _ _ h => h, fun _ _ _ _ _ h => h, fun _ _ _ _ _ h => h, fun _ _ _ _ _ h => h, fun _ _ _ _ _ h => h, fun _ _ _ _ _ h => h, fun _ _ _ _ _ h => h, fun _ _ _ _ _ h => h, fun _ _ _ _ _ h => h, fun _ _ _ _ _ h => h, fun _ _ _ _ _ h => h, fun _ _ _ _ _ h => h, fun _ _ _ _ _ h => h, fun _ _ _ _ _ h => h, fun _ _ _ _ _ h => h, fun _ _ _ _ _ h => h, by simp⟩
          · refine ⟨?_, ?_, ?_, ?_, ?_, ?_, ?_, ?_, ?_, ?_, ?_, ?_, ?_, ?_, ?_, ?_, ?_, trivial⟩
            · intro ρ w1 hw h0 hc hg hf hd
              have s1 : ρ (.tmp 1) = .slice (some ⟨bb, off, none⟩) zs.length cc := h0 1 (by kernel_rfl)
              refine ⟨fun _ => ?_, fun h => by cases h⟩
              clear h0 hg hd
              exact gives_move rfl ⟨Chg.refl _ _, s1⟩
            · intro ρ w1 hw h0 hc hg hf hd
              have s4 : ρ (.tmp 4) = .int .i64 (i : Int) := h0 4 (by kernel_rfl)
              refine ⟨fun _ => ?_, fun h => by cases h⟩
              clear h0 hg hd
              exact gives_move rfl ⟨Chg.refl _ _, s4⟩
            · intro ρ w1 hw h0 hc hg hf hd
              have d0 := hd ⟨0, .data⟩ (by simp) rfl _ _ _ rfl rfl rfl
              have d1 := hd ⟨1, .data⟩ (by simp) rfl _ _ _ rfl rfl rfl
              refine ⟨fun _ => ?_, fun h => by cases h⟩
              clear h0 hg hd
              clear hf hc
              refine Gives.value (w' := w1) ?_ ⟨Chg.refl _ _, rfl⟩
              go_simp
            · intro ρ w1 hw h0 hc hg hf hd
              have d2 := hd ⟨2, .data⟩ (by simp) rfl _ _ _ rfl rfl rfl
              refine ⟨fun _ => ?_, fun h => by cases h⟩
              clear h0 hg hd
              clear hc hf
              have c1 := hw.cell HZ.out (fun h => h)
              refine Gives.value (w' := w1) ?_ ⟨Chg.refl _ _, rfl⟩
              go_simp
            · intro ρ w1 hw h0 hc hg hf hd
              have d3 := hd ⟨3, .data⟩ (by simp) rfl _ _ _ rfl rfl rfl
              refine ⟨fun _ => ?_, fun h => by cases h⟩
              clear h0 hg hd
              clear hf
              refine Gives.value (w' := w1) ?_ ⟨Chg.refl _ _, rfl⟩
              go_simp
            · intro ρ w1 hw h0 hc hg hf hd
              have d4 := hd ⟨4, .data⟩ (by simp) rfl _ _ _ rfl rfl rfl
              refine ⟨fun _ => ?_, fun h => by cases h⟩
              clear h0 hg hd
              exact gives_move rfl ⟨Chg.refl _ _, d4⟩
            · intro ρ w1 hw h0 hc hg hf hd
              have d5 := hd ⟨5, .guard⟩ (by simp) rfl _ _ _ rfl rfl rfl
              have s1 : ρ (.tmp 1) = .slice (some ⟨bb, off, none⟩) zs.length cc := h0 1 (by kernel_rfl)
              refine ⟨fun _ => ?_, fun h => by rw [wantedBy_true rfl rfl rfl d5] at h; cases h⟩
              clear d5
              clear h0 hg hd
              exact gives_move rfl ⟨Chg.refl _ _, s1⟩
            · intro ρ w1 hw h0 hc hg hf hd
              have d5 := hd ⟨5, .guard⟩ (by simp) rfl _ _ _ rfl rfl rfl
              have s4 : ρ (.tmp 4) = .int .i64 (i : Int) := h0 4 (by kernel_rfl)
              refine ⟨fun _ => ?_, fun h => by rw [wantedBy_true rfl rfl rfl d5] at h; cases h⟩
              clear d5
              clear h0 hg hd
              exact gives_move rfl ⟨Chg.refl _ _, s4⟩
            · intro ρ w1 hw h0 hc hg hf hd
              have d6 := hd ⟨6, .data⟩ (by simp) rfl _ _ _ rfl rfl rfl
              have d7 := hd ⟨7, .data⟩ (by simp) rfl _ _ _ rfl rfl rfl
              have d5 := hd ⟨5, .guard⟩ (by simp) rfl _ _ _ rfl rfl rfl
              refine ⟨fun _ => ?_, fun h => by rw [wantedBy_true rfl rfl rfl d5] at h; cases h⟩
              clear d5
              clear h0 hg hd
              clear hf hc
              refine Gives.value (w' := w1) ?_ ⟨Chg.refl _ _, rfl⟩
              go_simp
            · intro ρ w1 hw h0 hc hg hf hd
              have d8 := hd ⟨8, .data⟩ (by simp) rfl _ _ _ rfl rfl rfl
              have d5 := hd ⟨5, .guard⟩ (by simp) rfl _ _ _ rfl rfl rfl
              refine ⟨fun _ => ?_, fun h => by rw [wantedBy_true rfl rfl rfl d5] at h; cases h⟩
              clear d5
              clear h0 hg hd
              clear hc hf
              have c1 := hw.cell HZ.out (fun h => h)
              refine Gives.value (w' := w1) ?_ ⟨Chg.refl _ _, rfl⟩
              go_simp
            · intro ρ w1 hw h0 hc hg hf hd
              have d5 := hd ⟨5, .guard⟩ (by simp) rfl _ _ _ rfl rfl rfl
              have s0 : ρ (.tmp 0) = .pointer (some ⟨p, 0, none⟩) := h0 0 (by kernel_rfl)
              refine ⟨fun _ => ?_, fun h => by rw [wantedBy_true rfl rfl rfl d5] at h; cases h⟩
              clear d5
              clear h0 hg hd
              exact gives_move rfl ⟨Chg.refl _ _, s0⟩
            · intro ρ w1 hw h0 hc hg hf hd
              have d10 := hd ⟨10, .data⟩ (by simp) rfl _ _ _ rfl rfl rfl
              have d5 := hd ⟨5, .guard⟩ (by simp) rfl _ _ _ rfl rfl rfl
              refine ⟨fun _ => ?_, fun h => by rw [wantedBy_true rfl rfl rfl d5] at h; cases h⟩
              clear d5
              clear h0 hg hd
              clear hf hc
              refine Gives.value (w' := w1) ?_ ⟨Chg.refl _ _, rfl⟩
              go_simp
            · intro ρ w1 hw h0 hc hg hf hd
              have d11 := hd ⟨11, .data⟩ (by simp) rfl _ _ _ rfl rfl rfl
              have d5 := hd ⟨5, .guard⟩ (by simp) rfl _ _ _ rfl rfl rfl
              refine ⟨fun _ => ?_, fun h => by rw [wantedBy_true rfl rfl rfl d5] at h; cases h⟩
              clear d5
              clear h0 hg hd
              clear hf hc
              refine Gives.value (w' := w1) ?_ ⟨Chg.refl _ _, rfl⟩
              go_simp
            · intro ρ w1 hw h0 hc hg hf hd
              have d12 := hd ⟨12, .data⟩ (by simp) rfl _ _ _ rfl rfl rfl
              have d5 := hd ⟨5, .guard⟩ (by simp) rfl _ _ _ rfl rfl rfl
              refine ⟨fun _ => ?_, fun h => by rw [wantedBy_true rfl rfl rfl d5] at h; cases h⟩
              clear d5
              clear h0 hg hd
              clear hc hf
              have c1 := hw.cell HC0.out (fun h => h)
              refine Gives.value (w' := w1) ?_ ⟨Chg.refl _ _, rfl⟩
              go_simp
            · intro ρ w1 hw h0 hc hg hf hd
              have d13 := hd ⟨13, .data⟩ (by simp) rfl _ _ _ rfl rfl rfl
              have d5 := hd ⟨5, .guard⟩ (by simp) rfl _ _ _ rfl rfl rfl
              refine ⟨fun _ => ?_, fun h => by rw [wantedBy_true rfl rfl rfl d5] at h; cases h⟩
              clear d5
              clear h0 hg hd
              clear hf
              refine Gives.value (w' := w1) ?_ ⟨Chg.refl _ _, rfl⟩
              go_simp
            · intro ρ w1 hw h0 hc hg hf hd
              have d9 := hd ⟨9, .data⟩ (by simp) rfl _ _ _ rfl rfl rfl
              have d14 := hd ⟨14, .data⟩ (by simp) rfl _ _ _ rfl rfl rfl
              have d5 := hd ⟨5, .guard⟩ (by simp) rfl _ _ _ rfl rfl rfl
              refine ⟨fun _ => ?_, fun h => by rw [wantedBy_true rfl rfl rfl d5] at h; cases h⟩
              clear d5
              clear h0 hg hd
              clear hf
              refine Gives.value (w' := w1) ?_ ⟨Chg.refl _ _, rfl⟩
              go_simp
            · intro ρ w1 hw h0 hc hg hf hd
              have d5 := hd ⟨5, .data⟩ (by simp) rfl _ _ _ rfl rfl rfl
              have d15 := hd ⟨15, .data⟩ (by simp) rfl _ _ _ rfl rfl rfl
              refine ⟨fun _ => ?_, fun h => by cases h⟩
              clear h0 hg hd
              refine Gives.value (w' := w1) ?_ ⟨Chg.refl _ _, rfl⟩
              go_simp
          · intro vs w2 hw hr
            have h16 := hr 16 _ rfl
            clear hr
            dsimp only [putsL, restL]
            simp only [Act.put, List.setIfInBounds_toArray, List.set_cons_zero, List.set_cons_succ]
            simp only [Nat.zero_add, Nat.reduceAdd]
            rw [h16]
            have HU2 : Hid (Up wr w2) := Lib.hid ((Chg.refl (fun _ => False) wr).drew.trans hw)
            have HZ' : Hid (w2.drew.cell? ⟨bb, off + i, none⟩ = some (.int .i64 z)) := Lib.hid (hw.cell HZ.out (fun h => h))
            have HC1' : Hid (w2.drew.cell? ⟨p, 1, none⟩ = some (.slice (some ⟨g2, 0, none⟩) n c2)) := Lib.hid (hw.cell HC1.out (fun h => h))
            clear hw h16 HZ HC1 HC0
            rename Hid (w2.drew.cell? ⟨bb, off + i, none⟩ = some (.int .i64 z)) => HZ
            rename Hid (w2.drew.cell? ⟨p, 1, none⟩ = some (.slice (some ⟨g2, 0, none⟩) n c2)) => HC1
            go_wp2_with fail
            refine MT.region_mono Up [fun v _ => v = .pointer (some ⟨p, 0, none⟩),
                fun v _ => v = .pointer (some ⟨p, 0, none⟩),
                fun v _ => v = .pointer (some ⟨p, 1, none⟩),
                fun v _ => v = .slice (some ⟨g2, 0, none⟩) n c2,
                fun v _ => v = .slice (some ⟨bb, off, none⟩) zs.length cc,
                fun v _ => v = .int .i64 (i : Int),
                fun v _ => v = .pointer (some ⟨bb, off + i, none⟩),
                fun v _ => v = .int .i64 (z : Int),
                fun v _ => v = .pointer (some ⟨g2, z, none⟩)] (by kernel_rfl) (by kernel_rfl) (Chg.refl _) (fun _ _ _ => Chg.trans) (by simp) ?_ ?_ ?_
            · simp only [List.forall_mem_cons]
              exact ⟨fun _ _ _ _ _ h => h, fun _ _ _ _ _ h => h, fun _ _ _ _ _ h => h, fun _ _ _ _ _ h => h, fun _ _ _ _ _ h => h, fun _ _ _ _ _ h => h, fun _ _ _ _ _ h => h, fun _ _ _ _ _ h => h, fun _ _ _ _ _ h => h, by simp⟩
            · refine ⟨?_, ?_, ?_, ?_, ?_, ?_, ?_, ?_, ?_, trivial⟩
              · intro ρ w1 hw h0 hc hg hf hd
                have s0 : ρ (.tmp 0) = .pointer (some ⟨p, 0, none⟩) := h0 0 (by kernel_rfl)
                refine ⟨fun _ => ?_, fun h => by cases h⟩
                clear h0 hg hd
                exact gives_move rfl ⟨Chg.refl _ _, s0⟩
              · intro ρ w1 hw h0 hc hg hf hd
                have d0 := hd ⟨0, .data⟩ (by simp) rfl _ _ _ rfl rfl rfl
                refine ⟨fun _ => ?_, fun h => by cases h⟩
                clear h0 hg hd
                clear hf hc
                refine Gives.value (w' := w1) ?_ ⟨Chg.refl _ _, rfl⟩
                go_simp
              · intro ρ w1 hw h0 hc hg hf hd
                have d1 := hd ⟨1, .data⟩ (by simp) rfl _ _ _ rfl rfl rfl
                refine ⟨fun _ => ?_, fun h => by cases h⟩
                clear h0 hg hd
                clear hf hc
                refine Gives.value (w' := w1) ?_ ⟨Chg.refl _ _, rfl⟩
                go_simp
              · intro ρ w1 hw h0 hc hg hf hd
                have d2 := hd ⟨2, .data⟩ (by simp) rfl _ _ _ rfl rfl rfl
                refine ⟨fun _ => ?_, fun h => by cases h⟩
                clear h0 hg hd
                clear hc hf
                have c1 := hw.cell HC1.out (fun h => h)
                refine Gives.value (w' := w1) ?_ ⟨Chg.refl _ _, rfl⟩
                go_simp
              · intro ρ w1 hw h0 hc hg hf hd
                have s1 : ρ (.tmp 1) = .slice (some ⟨bb, off, none⟩) zs.length cc := h0 1 (by kernel_rfl)
                refine ⟨fun _ => ?_, fun h => by cases h⟩
                clear h0 hg hd
                exact gives_move rfl ⟨Chg.refl _ _, s1⟩
              · intro ρ w1 hw h0 hc hg hf hd
                have s4 : ρ (.tmp 4) = .int .i64 (i : Int) := h0 4 (by kernel_rfl)
                refine ⟨fun _ => ?_, fun h => by cases h⟩
                clear h0 hg hd
                exact gives_move rfl ⟨Chg.refl _ _, s4⟩
              · intro ρ w1 hw h0 hc hg hf hd
                have d4 := hd ⟨4, .data⟩ (by simp) rfl _ _ _ rfl rfl rfl
                have d5 := hd ⟨5, .data⟩ (by simp) rfl _ _ _ rfl rfl rfl
                refine ⟨fun _ => ?_, fun h => by cases h⟩
                clear h0 hg hd
                clear hf hc
                refine Gives.value (w' := w1) ?_ ⟨Chg.refl _ _, rfl⟩
                go_simp
              · intro ρ w1 hw h0 hc hg hf hd
                have d6 := hd ⟨6, .data⟩ (by simp) rfl _ _ _ rfl rfl rfl
                refine ⟨fun _ => ?_, fun h => by cases h⟩
                clear h0 hg hd
                clear hc hf
                have c1 := hw.cell HZ.out (fun h => h)
                refine Gives.value (w' := w1) ?_ ⟨Chg.refl _ _, rfl⟩
                go_simp
              · intro ρ w1 hw h0 hc hg hf hd
                have d3 := hd ⟨3, .data⟩ (by simp) rfl _ _ _ rfl rfl rfl
                have d7 := hd ⟨7, .data⟩ (by simp) rfl _ _ _ rfl rfl rfl
                refine ⟨fun _ => ?_, fun h => by cases h⟩
                clear h0 hg hd
                clear hf hc
                refine Gives.value (w' := w1) ?_ ⟨Chg.refl _ _, rfl⟩
                go_simp
            · intro vs w3 hw hr
              have h8 := hr 8 _ rfl
              clear hr
              dsimp only [putsL, restL]
              simp only [Act.put, List.setIfInBounds_toArray, List.set_cons_zero, List.set_cons_succ]
              simp only [Nat.zero_add, Nat.reduceAdd]
              rw [h8]
              have hu3 : Up wr w3 := HU2.out.trans ((Chg.refl (fun _ => False) w2).drew.trans hw)
              have k2 := HD.out.up hu3
              have f1 : w3.frozen? ⟨g2, z, none⟩ = false := World.ownsRow.frozenAt k2.r2 z
              have z1 := row_at k2.r2 z (by omega)
              have HK3 := Lib.hid (k2.set2 z [])
              have HC4 : Hid (Chg (OwnR p (.slice (some ⟨g1, 0, none⟩) n c1) (.slice (some ⟨g2, 0, none⟩) n c2)) w (w3.setCell ⟨g2, z, none⟩ (.string (strOfNums [])))) := Lib.hid ((HCH.out.then hu3 (fun _ h => h.elim)).setCell ⟨g2, z, none⟩ (.inl (.inr (.inr rfl))) _)
              clear hw h8 hu3 k2
              go_wp2_with fail
              exact ⟨⟨i + 1, by omega, by go_num, HK3.out.congr (fun j _ => rfl) (fun j _ => HST.out j), HC4.out⟩, by simp [intOf]; omega⟩
        · have HSK := Lib.hid (lost_skip x zs i n (by omega) (by rw [HZE.out]; omega))
          go_wp2_with fail
          refine MT.region_mono Up [fun v _ => v = .slice (some ⟨bb, off, none⟩) zs.length cc,
              fun v _ => v = .int .i64 (i : Int),
              fun v _ => v = .pointer (some ⟨bb, off + i, none⟩),
              fun v _ => v = .int .i64 z,
              fun v _ => v = .bool true,
              fun v _ => v = .bool true,
              fun v _ => v = .slice (some ⟨bb, off, none⟩) zs.length cc,
              fun v _ => v = .int .i64 (i : Int),
              fun v _ => v = .pointer (some ⟨bb, off + i, none⟩),
              fun v _ => v = .int .i64 z,
              fun v _ => v = .pointer (some ⟨p, 0, none⟩),
              fun v _ => v = .pointer (some ⟨p, 0, none⟩),
              fun v _ => v = .pointer (some ⟨p, 0, none⟩),
              fun v _ => v = .slice (some ⟨g1, 0, none⟩) n c1,
              fun v _ => v = .int .i64 (n : Int),
              fun v _ => v = .bool false,
              fun v _ => v = .bool false] (by kernel_rfl) (by kernel_rfl) (Chg.refl _) (fun _ _ _ => Chg.trans) (by simp) ?_ ?_ ?_
          · simp only [List.forall_mem_cons]
            exact ⟨fun _ _ _ _ _ h => h, fun _ _ _ _ _ h => h, fun _ _ _ _ _ h => h, fun _ _ _ _ _ h => h, fun _ _ _ _ _ h => h, fun _ _ _ _ _ h => h, fun _ _ _ _ _ h => h, fun _ _ _ _ _ h => h, fun _ _ _ _ _ h => h, fun _ _ _ _ _ h => h, fun _ _ _ _ _ h => h, fun _ _ _ _ _ h => h, fun _ _ _ _ _ h => h, fun _ _ _ _ _ h => h, fun _ _ _ _ _ h => h, fun _ _ _ _ _ h => h, fun _ _ _ _ _ h => h, by simp⟩
          · refine ⟨?_, ?_, ?_, ?_, ?_, ?_, ?_, ?_, ?_, ?_, ?_, ?_, ?_, ?_, ?_, ?_, ?_, trivial⟩
            · intro ρ w1 hw h0 hc hg hf hd
              have s1 : ρ (.tmp 1) = .slice (some ⟨bb, off, none⟩) zs.length cc := h0 1 (by kernel_rfl)
              refine ⟨fun _ => ?_, fun h => by cases h⟩
              clear h0 hg hd
              exact gives_move rfl ⟨Chg.refl _ _, s1⟩
            · intro ρ w1 hw h0 hc hg hf hd
              have s4 : ρ (.tmp 4) = .int .i64 (i : Int) := h0 4 (by kernel_rfl)
              refine ⟨fun _ => ?_, fun h => by cases h⟩
              clear h0 hg hd
              exact gives_move rfl ⟨Chg.refl _ _, s4⟩
            · intro ρ w1 hw h0 hc hg hf hd
              have d0 := hd ⟨0, .data⟩ (by simp) rfl _ _ _ rfl rfl rfl
              have d1 := hd ⟨1, .data⟩ (by simp) rfl _ _ _ rfl rfl rfl
              refine ⟨fun _ => ?_, fun h => by cases h⟩
              clear h0 hg hd
              clear hf hc
              refine Gives.value (w' := w1) ?_ ⟨Chg.refl _ _, rfl⟩
              go_simp
            · intro ρ w1 hw h0 hc hg hf hd
              have d2 := hd ⟨2, .data⟩ (by simp) rfl _ _ _ rfl rfl rfl
              refine ⟨fun _ => ?_, fun h => by cases h⟩
              clear h0 hg hd
              clear hc hf
              have c1 := hw.cell HZ.out (fun h => h)
              refine Gives.value (w' := w1) ?_ ⟨Chg.refl _ _, rfl⟩
              go_simp
            · intro ρ w1 hw h0 hc hg hf hd
              have d3 := hd ⟨3, .data⟩ (by simp) rfl _ _ _ rfl rfl rfl
              refine ⟨fun _ => ?_, fun h => by cases h⟩
              clear h0 hg hd
              clear hf
              refine Gives.value (w' := w1) ?_ ⟨Chg.refl _ _, rfl⟩
              go_simp
            · intro ρ w1 hw h0 hc hg hf hd
              have d4 := hd ⟨4, .data⟩ (by simp) rfl _ _ _ rfl rfl rfl
              refine ⟨fun _ => ?_, fun h => by cases h⟩
              clear h0 hg hd
              exact gives_move rfl ⟨Chg.refl _ _, d4⟩
            · intro ρ w1 hw h0 hc hg hf hd
              have d5 := hd ⟨5, .guard⟩ (by simp) rfl _ _ _ rfl rfl rfl
              have s1 : ρ (.tmp 1) = .slice (some ⟨bb, off, none⟩) zs.length cc := h0 1 (by kernel_rfl)
              refine ⟨fun _ => ?_, fun h => by rw [wantedBy_true rfl rfl rfl d5] at h; cases h⟩
              clear d5
              clear h0 hg hd
              exact gives_move rfl ⟨Chg.refl _ _, s1⟩
            · intro ρ w1 hw h0 hc hg hf hd
              have d5 := hd ⟨5, .guard⟩ (by simp) rfl _ _ _ rfl rfl rfl
              have s4 : ρ (.tmp 4) = .int .i64 (i : Int) := h0 4 (by kernel_rfl)
              refine ⟨fun _ => ?_, fun h => by rw [wantedBy_true rfl rfl rfl d5] at h; cases h⟩
              clear d5
              clear h0 hg hd
              exact gives_move rfl ⟨Chg.refl _ _, s4⟩
            · intro ρ w1 hw h0 hc hg hf hd
              have d6 := hd ⟨6, .data⟩ (by simp) rfl _ _ _ rfl rfl rfl
              have d7 := hd ⟨7, .data⟩ (by simp) rfl _ _ _ rfl rfl rfl
              have d5 := hd ⟨5, .guard⟩ (by simp) rfl _ _ _ rfl rfl rfl
              refine ⟨fun _ => ?_, fun h => by rw [wantedBy_true rfl rfl rfl d5] at h; cases h⟩
              clear d5
              clear h0 hg hd
              clear hf hc
              refine Gives.value (w' := w1) ?_ ⟨Chg.refl _ _, rfl⟩
              go_simp
            · intro ρ w1 hw h0 hc hg hf hd
              have d8 := hd ⟨8, .data⟩ (by simp) rfl _ _ _ rfl rfl rfl
              have d5 := hd ⟨5, .guard⟩ (by simp) rfl _ _ _ rfl rfl rfl
              refine ⟨fun _ => ?_, fun h => by rw [wantedBy_true rfl rfl rfl d5] at h; cases h⟩
              clear d5
              clear h0 hg hd
              clear hc hf
              have c1 := hw.cell HZ.out (fun h => h)
              refine Gives.value (w' := w1) ?_ ⟨Chg.refl _ _, rfl⟩
              go_simp
            · intro ρ w1 hw h0 hc hg hf hd
              have d5 := hd ⟨5, .guard⟩ (by simp) rfl _ _ _ rfl rfl rfl
              have s0 : ρ (.tmp 0) = .pointer (some ⟨p, 0, none⟩) := h0 0 (by kernel_rfl)
              refine ⟨fun _ => ?_, fun h => by rw [wantedBy_true rfl rfl rfl d5] at h; cases h⟩
              clear d5
              clear h0 hg hd
              exact gives_move rfl ⟨Chg.refl _ _, s0⟩
            · intro ρ w1 hw h0 hc hg hf hd
              have d10 := hd ⟨10, .data⟩ (by simp) rfl _ _ _ rfl rfl rfl
              have d5 := hd ⟨5, .guard⟩ (by simp) rfl _ _ _ rfl rfl rfl
              refine ⟨fun _ => ?_, fun h => by rw [wantedBy_true rfl rfl rfl d5] at h; cases h⟩
              clear d5
              clear h0 hg hd
              clear hf hc
              refine Gives.value (w' := w1) ?_ ⟨Chg.refl _ _, rfl⟩
              go_simp
            · intro ρ w1 hw h0 hc hg hf hd
              have d11 := hd ⟨11, .data⟩ (by simp) rfl _ _ _ rfl rfl rfl
              have d5 := hd ⟨5, .guard⟩ (by simp) rfl _ _ _ rfl rfl rfl
              refine ⟨fun _ => ?_, fun h => by rw [wantedBy_true rfl rfl rfl d5] at h; cases h⟩
              clear d5
              clear h0 hg hd
              clear hf hc
              refine Gives.value (w' := w1) ?_ ⟨Chg.refl _ _, rfl⟩
              go_simp
            · intro ρ w1 hw h0 hc hg hf hd
              have d12 := hd ⟨12, .data⟩ (by simp) rfl _ _ _ rfl rfl rfl
              have d5 := hd ⟨5, .guard⟩ (by simp) rfl _ _ _ rfl rfl rfl
              refine ⟨fun _ => ?_, fun h => by rw [wantedBy_true rfl rfl rfl d5] at h; cases h⟩
              clear d5
              clear h0 hg hd
              clear hc hf
              have c1 := hw.cell HC0.out (fun h => h)
              refine Gives.value (w' := w1) ?_ ⟨Chg.refl _ _, rfl⟩
              go_simp
            · intro ρ w1 hw h0 hc hg hf hd
              have d13 := hd ⟨13, .data⟩ (by simp) rfl _ _ _ rfl rfl rfl
              have d5 := hd ⟨5, .guard⟩ (by simp) rfl _ _ _ rfl rfl rfl
              refine ⟨fun _ => ?_, fun h => by rw [wantedBy_true rfl rfl rfl d5] at h; cases h⟩
              clear d5
              clear h0 hg hd
              clear hf
              refine Gives.value (w' := w1) ?_ ⟨Chg.refl _ _, rfl⟩
              go_simp
            · intro ρ w1 hw h0 hc hg hf hd
              have d9 := hd ⟨9, .data⟩ (by simp) rfl _ _ _ rfl rfl rfl
              have d14 := hd ⟨14, .data⟩ (by simp) rfl _ _ _ rfl rfl rfl
              have d5 := hd ⟨5, .guard⟩ (by simp) rfl _ _ _ rfl rfl rfl
              refine ⟨fun _ => ?_, fun h => by rw [wantedBy_true rfl rfl rfl d5] at h; cases h⟩
              clear d5
              clear h0 hg hd
              clear hf
              refine Gives.value (w' := w1) ?_ ⟨Chg.refl _ _, rfl⟩
              go_simp
            · intro ρ w1 hw h0 hc hg hf hd
              have d5 := hd ⟨5, .data⟩ (by simp) rfl _ _ _ rfl rfl rfl
              have d15 := hd ⟨15, .data⟩ (by simp) rfl _ _ _ rfl rfl rfl
              refine ⟨fun _ => ?_, fun h => by cases h⟩
              clear h0 hg hd
              refine Gives.value (w' := w1) ?_ ⟨Chg.refl _ _, rfl⟩
              go_simp
          · intro vs w2 hw hr
            have h16 := hr 16 _ rfl
            clear hr
            dsimp only [putsL, restL]
            simp only [Act.put, List.setIfInBounds_toArray, List.set_cons_zero, List.set_cons_succ]
            simp only [Nat.zero_add, Nat.reduceAdd]
            rw [h16]
            have HU2 : Hid (Up wr w2) := Lib.hid ((Chg.refl (fun _ => False) wr).drew.trans hw)
            clear hw h16
            go_wp2_with fail
            exact ⟨⟨i + 1, by omega, by go_num, (HD.out.up HU2.out).congr (fun j _ => rfl) (fun j hj => HSK.out j hj), HCH.out.then HU2.out (fun _ h => h.elim)⟩, by simp [intOf]; omega⟩
      · have HSK := Lib.hid (lost_skip x zs i n (by omega) (by rw [HZE.out]; omega))
        go_wp2_with fail
        refine MT.region_mono Up [fun v _ => v = .slice (some ⟨bb, off, none⟩) zs.length cc,
            fun v _ => v = .int .i64 (i : Int),
            fun v _ => v = .pointer (some ⟨bb, off + i, none⟩),
            fun v _ => v = .int .i64 z,
            fun v _ => v = .bool false,
            fun v _ => v = .bool false,
            fun _ _ => True,
            fun _ _ => True,
            fun _ _ => True,
            fun _ _ => True,
            fun _ _ => True,
            fun _ _ => True,
            fun _ _ => True,
            fun _ _ => True,
            fun _ _ => True,
            fun _ _ => True,
            fun v _ => v = .bool false] (by kernel_rfl) (by kernel_rfl) (Chg.refl _) (fun _ _ _ => Chg.trans) (by simp) ?_ ?_ ?_
        · simp only [List.forall_mem_cons]
          exact ⟨fun _ _ _ _ _ h => h, fun _ _ _ _ _ h => h, fun _ _ _ _ _ h => h, fun _ _ _ _ _ h => h, fun _ _ _ _ _ h => h, fun _ _ _ _ _ h => h, fun _ _ _ _ _ h => h, fun _ _ _ _ _ h => h, fun _ _ _ _ _ h => h, fun _ _ _ _ _ h => h, fun _ _ _ _ _ h => h, fun _ _ _ _ _ h => h, fun _ _ _ _ _ h => h, fun _ _ _ _ _ h => h, fun _ _ _ _ _ h => h, fun _ _ _ _ _ h => h, fun _ _ _ _ _ h => h, by simp⟩
        · refine ⟨?_, ?_, ?_, ?_, ?_, ?_, ?_, ?_, ?_, ?_, ?_, ?_, ?_, ?_, ?_, ?_, ?_, trivial⟩
          · intro ρ w1 hw h0 hc hg hf hd
            have s1 : ρ (.tmp 1) = .slice (some ⟨bb, off, none⟩) zs.length cc := h0 1 (by kernel_rfl)
            refine ⟨fun _ => ?_, fun h => by cases h⟩
            clear h0 hg hd
            exact gives_move rfl ⟨Chg.refl _ _, s1⟩
          · intro ρ w1 hw h0 hc hg hf hd
            have s4 : ρ (.tmp 4) = .int .i64 (i : Int) := h0 4 (by kernel_rfl)
            refine ⟨fun _ => ?_, fun h => by cases h⟩
            clear h0 hg hd
            exact gives_move rfl ⟨Chg.refl _ _, s4⟩
          · intro ρ w1 hw h0 hc hg hf hd
            have d0 := hd ⟨0, .data⟩ (by simp) rfl _ _ _ rfl rfl rfl
            have d1 := hd ⟨1, .data⟩ (by simp) rfl _ _ _ rfl rfl rfl
            refine ⟨fun _ => ?_, fun h => by cases h⟩
            clear h0 hg hd
            clear hf hc
            refine Gives.value (w' := w1) ?_ ⟨Chg.refl _ _, rfl⟩
            go_simp
          · intro ρ w1 hw h0 hc hg hf hd
            have d2 := hd ⟨2, .data⟩ (by simp) rfl _ _ _ rfl rfl rfl
            refine ⟨fun _ => ?_, fun h => by cases h⟩
            clear h0 hg hd
            clear hc hf
            have c1 := hw.cell HZ.out (fun h => h)
            refine Gives.value (w' := w1) ?_ ⟨Chg.refl _ _, rfl⟩
            go_simp
          · intro ρ w1 hw h0 hc hg hf hd
            have d3 := hd ⟨3, .data⟩ (by simp) rfl _ _ _ rfl rfl rfl
            refine ⟨fun _ => ?_, fun h => by cases h⟩
            clear h0 hg hd
            clear hf
            refine Gives.value (w' := w1) ?_ ⟨Chg.refl _ _, rfl⟩
            go_simp
          · intro ρ w1 hw h0 hc hg hf hd
            have d4 := hd ⟨4, .data⟩ (by simp) rfl _ _ _ rfl rfl rfl
            refine ⟨fun _ => ?_, fun h => by cases h⟩
            clear h0 hg hd
            exact gives_move rfl ⟨Chg.refl _ _, d4⟩
          · intro ρ w1 hw h0 hc hg hf hd
            have d5 := hd ⟨5, .guard⟩ (by simp) rfl _ _ _ rfl rfl rfl
            exact ⟨fun hx => (by rw [wantedBy_false rfl rfl rfl d5] at hx; cases hx), fun _ => trivial⟩
          · intro ρ w1 hw h0 hc hg hf hd
            have d5 := hd ⟨5, .guard⟩ (by simp) rfl _ _ _ rfl rfl rfl
            exact ⟨fun hx => (by rw [wantedBy_false rfl rfl rfl d5] at hx; cases hx), fun _ => trivial⟩
          · intro ρ w1 hw h0 hc hg hf hd
            have d5 := hd ⟨5, .guard⟩ (by simp) rfl _ _ _ rfl rfl rfl
            exact ⟨fun hx => (by rw [wantedBy_false rfl rfl rfl d5] at hx; cases hx), fun _ => trivial⟩
          · intro ρ w1 hw h0 hc hg hf hd
            have d5 := hd ⟨5, .guard⟩ (by simp) rfl _ _ _ rfl rfl rfl
            exact ⟨fun hx => (by rw [wantedBy_false rfl rfl rfl d5] at hx; cases hx), fun _ => trivial⟩
          · intro ρ w1 hw h0 hc hg hf hd
            have d5 := hd ⟨5, .guard⟩ (by simp) rfl _ _ _ rfl rfl rfl
            exact ⟨fun hx => (by rw [wantedBy_false rfl rfl rfl d5] at hx; cases hx), fun _ => trivial⟩
          · intro ρ w1 hw h0 hc hg hf hd
            have d5 := hd ⟨5, .guard⟩ (by simp) rfl _ _ _ rfl rfl rfl
            exact ⟨fun hx => (by rw [wantedBy_false rfl rfl rfl d5] at hx; cases hx), fun _ => trivial⟩
          · intro ρ w1 hw h0 hc hg hf hd
            have d5 := hd ⟨5, .guard⟩ (by simp) rfl _ _ _ rfl rfl rfl
            exact ⟨fun hx => (by rw [wantedBy_false rfl rfl rfl d5] at hx; cases hx), fun _ => trivial⟩
          · intro ρ w1 hw h0 hc hg hf hd
            have d5 := hd ⟨5, .guard⟩ (by simp) rfl _ _ _ rfl rfl rfl
            exact ⟨fun hx => (by rw [wantedBy_false rfl rfl rfl d5] at hx; cases hx), fun _ => trivial⟩
          · intro ρ w1 hw h0 hc hg hf hd
            have d5 := hd ⟨5, .guard⟩ (by simp) rfl _ _ _ rfl rfl rfl
            exact ⟨fun hx => (by rw [wantedBy_false rfl rfl rfl d5] at hx; cases hx), fun _ => trivial⟩
          · intro ρ w1 hw h0 hc hg hf hd
            have d5 := hd ⟨5, .guard⟩ (by simp) rfl _ _ _ rfl rfl rfl
            exact ⟨fun hx => (by rw [wantedBy_false rfl rfl rfl d5] at hx; cases hx), fun _ => trivial⟩
          · intro ρ w1 hw h0 hc hg hf hd
            have d5 := hd ⟨5, .data⟩ (by simp) rfl _ _ _ rfl rfl rfl
            have d15 := hd ⟨15, .data⟩ (by simp) rfl _ _ _ rfl rfl rfl
            refine ⟨fun _ => ?_, fun h => by cases h⟩
            clear h0 hg hd
            refine Gives.value (w' := w1) ?_ ⟨Chg.refl _ _, rfl⟩
            go_simp
        · intro vs w2 hw hr
          have h16 := hr 16 _ rfl
          clear hr
          dsimp only [putsL, restL]
          simp only [Act.put, List.setIfInBounds_toArray, List.set_cons_zero, List.set_cons_succ]
          simp only [Nat.zero_add, Nat.reduceAdd]
          rw [h16]
          have HU2 : Hid (Up wr w2) := Lib.hid ((Chg.refl (fun _ => False) wr).drew.trans hw)
          clear hw h16
          go_wp2_with fail
          exact ⟨⟨i + 1, by omega, by go_num, (HD.out.up HU2.out).congr (fun j _ => rfl) (fun j hj => HSK.out j hj), HCH.out.then HU2.out (fun _ h => h.elim)⟩, by simp [intOf]; omega⟩
    · obtain rfl : i = zs.length := by omega
      clear hd hch
      have hx : RefX wr p (.slice (some ⟨g1, 0, none⟩) n c1) (.slice (some ⟨g2, 0, none⟩) n c2) { x with ca := dropAll x.ca zs } := ⟨L, ar, by
        show RefF _ _ _ _ x.has.length _ _ _ _ _ _ _
        rw [HN.out]
        refine HD.out.congr (fun j _ => rfl) (fun j _ => ?_)
        unfold lostC caF
        rw [List.take_length], HL.out⟩
      have HST := Lib.hid (xsettle wr p _ _ _ k hx (HW.out.lose zs))
      clear hx
      go_wp2_with fail
      refine HST.out.mono ?_
      rintro e w5 ⟨⟨u, rfl⟩, ⟨L5, ar5, hF5, _, _⟩, hc5⟩
      have q5 := hF5.c5
      have q6 := hF5.c6
      have f5 := hF5.fz 5
      have f6 := hF5.fz 6
      have H5 := Lib.hid hF5
      have HC5 := Lib.hid (HCH.out.trans hc5)
      clear hF5 hc5
      go_wp2_with fail
      go_end0
      have hc : Chg (fun i => i = p) w5 ((w5.setCell ⟨p, 5, none⟩ (.bool false)).setCell ⟨p, 6, none⟩ (.bool false)) := ((Chg.refl (fun i => i = p) w5).setCell ⟨p, 5, none⟩ (.inl rfl) _).setCell ⟨p, 6, none⟩ (.inl rfl) _
      exact ⟨⟨_, rfl⟩, ⟨L5, false, H5.out.nums hc (by rw [heap_setCell_same _ p 6 _ _ _ (heap_setCell_same w5 p 5 _ _ _ H5.out.obj)]; rfl), fun h => (by cases h), fun _ => rfl⟩, HC5.out.then hc (fun j hj => .inl (.inl hj))⟩
end Go.Proofs.Ytkndnlhlglgmfaa
