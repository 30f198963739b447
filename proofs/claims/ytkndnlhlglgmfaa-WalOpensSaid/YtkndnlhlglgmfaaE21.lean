/-
  The document's disk as a disk: Write, Flush, Tamper, walked.
-/
import Derived.Test.YtkndnlhlglgmfaaE20
namespace Go.Proofs.Ytkndnlhlglgmfaa
open Go.RowKit
def hasF (x : Dk) (j : Nat) : List Int := x.has.getD j []
def caF (x : Dk) (j : Nat) : List Int := (x.ca (j : Nat)).getD []
/-- The document's disk. -/
def RefX (w : World) (p : Nat) (sv1 sv2 : Value) (x : Dk) : Prop := ∃ L ar, RefF w p sv1 sv2 x.has.length x.size L x.done ar x.down (hasF x) (caF x) ∧ (ar = true → L = x.left ∧ 0 ≤ L) ∧ (ar = false → x.left = -1)
/-- A disk with its bounds, that has sectors. -/
structure W16 (x : Dk) (k : Nat) : Prop where
  wf : Wf x k
  num : 0 < x.has.length
  size : 16 ≤ x.size
section
variable {w w' : World} {p : Nat} {sv1 sv2 : Value} {x : Dk}
theorem RefX.chg {S : Nat → Prop} (h : RefX w p sv1 sv2 x) (hc : Chg S w w') (hS : ∀ j, OwnR p sv1 sv2 j → ¬ S j) : RefX w' p sv1 sv2 x := by
  obtain ⟨L, ar, h1, h2, h3⟩ := h
  exact ⟨L, ar, h1.chg hc hS, h2, h3⟩
theorem RefX.up (h : RefX w p sv1 sv2 x) (hu : Up w w') : RefX w' p sv1 sv2 x := h.chg hu (fun _ _ h => h)
theorem RefX.lt (h : RefX w p sv1 sv2 x) (j : Nat) (hj : OwnR p sv1 sv2 j) : j < w.heap.size := by
  obtain ⟨L, ar, h1, _⟩ := h
  exact h1.lt j hj
/-- What is read of a sector. -/
theorem now_eq {k : Nat} (hw : W16 x k) (i : Nat) : (if caF x i = [] then hasF x i else caF x i) = nowI x i := by
  unfold caF hasF nowI
  cases hc : x.ca (i : Nat) with
  | none => simp
  | some xs =>
    have h1 := (hw.wf.ca _ _ hc).1
    have h2 := hw.size
    have : xs ≠ [] := by rintro rfl; simp at h1; omega
    simp [this]
end
def XPost (w : World) (p : Nat) (sv1 sv2 : Value) (y : Dk) (r : Int) (e : Ending) (w' : World) : Prop := e = .returned (.int .i64 r) ∧ RefX w' p sv1 sv2 y ∧ Chg (OwnR p sv1 sv2) w w'
theorem xnow (w : World) (p : Nat) (sv1 sv2 : Value) (x : Dk) (k : Nat) (h : RefX w p sv1 sv2 x) (hw : W16 x k) (i : Nat) (hi : i < x.has.length) : Calls Try.prog 44 #[.pointer (some ⟨p, 0, none⟩), .int .i64 i] w (fun e w' => e = .returned (.string (strOfNums (nowI x i))) ∧ w' = w) := by
  obtain ⟨L, ar, h1, h2, h3⟩ := h
  rw [← now_eq hw i]
  exact rnow_any w p sv1 sv2 _ _ L _ ar _ _ _ h1 hw.num hw.wf.num i hi
theorem comm_bridge (x : Dk) (L : Int) (ar : Bool) (h2 : ar = true → L = x.left ∧ 0 ≤ L) (h3 : ar = false → x.left = -1) :
    ∃ L', commR L x.done ar x.down = (L', (commI x).1.done, (commI x).1.down, (commI x).2) ∧ (ar = true → L' = (commI x).1.left ∧ 0 ≤ L') ∧ (ar = false → (commI x).1.left = -1) := by
  unfold commR commI
  cases ar with
  | false =>
    have h4 := h3 rfl
    have e1 : ¬ x.left = 0 := by omega
    simp only [e1, if_false, Bool.false_eq_true, false_and]
    exact ⟨L, rfl, fun h => (by cases h), fun _ => by omega⟩
  | true =>
    obtain ⟨h4, h5⟩ := h2 rfl
    subst h4
    by_cases h0 : x.left = 0
    · simp only [h0, and_self, if_true]
      exact ⟨0, rfl, fun _ => ⟨by simp [h0], by omega⟩, fun h => (by cases h)⟩
    · simp only [h0, and_false, if_false, if_true]
      exact ⟨x.left - 1, rfl, fun _ => ⟨by omega, by omega⟩, fun h => (by cases h)⟩
theorem commI_ca (x : Dk) : (commI x).1.ca = x.ca := by unfold commI; split <;> rfl
theorem xcomm (w : World) (p : Nat) (sv1 sv2 : Value) (x : Dk) (k : Nat) (h : RefX w p sv1 sv2 x) (hw : Wf x k) (hk : k ≤ 100000) : Calls Try.prog 88 #[.pointer (some ⟨p, 0, none⟩)] w (XPost w p sv1 sv2 (commI x).1 (commI x).2) := by
  obtain ⟨L, ar, h1, h2, h3⟩ := h
  have hd := hw.done
  have hl := hw.left
  have hb := comm_bridge x L ar h2 h3
  refine (rcomm_any w p sv1 sv2 _ _ L _ ar _ _ _ h1 (fun ha => by have := h2 ha; omega) (by omega)).mono ?_
  rintro e w' ⟨rfl, hf, hc⟩
  obtain ⟨L', e1, h4, h5⟩ := hb
  rw [e1] at hf ⊢
  refine ⟨rfl, ⟨L', ar, ?_, h4, h5⟩, hc⟩
  unfold hasF caF
  rw [commI_has, commI_size, commI_ca]
  exact hf
theorem xsettle (w : World) (p : Nat) (sv1 sv2 : Value) (x : Dk) (k : Nat) (h : RefX w p sv1 sv2 x) (hw : W16 x k) : Calls Try.prog 72 #[.pointer (some ⟨p, 0, none⟩)] w (fun e w' => (∃ u, e = .returned u) ∧ RefX w' p sv1 sv2 (settleI x) ∧ Chg (OwnR p sv1 sv2) w w') := by
  obtain ⟨L, ar, h1, h2, h3⟩ := h
  refine (rsettle_any w p sv1 sv2 _ _ L _ ar _ _ _ h1 hw.num hw.wf.num).mono ?_
  rintro e w' ⟨hu, hf, hc⟩
  refine ⟨hu, ⟨L, ar, ?_, h2, h3⟩, hc⟩
  have hl : (settleI x).has.length = x.has.length := by simp [settleI]
  rw [hl]
  refine hf.congr (fun j hj => ?_) (fun j hj => rfl)
  rw [now_eq hw j]
  simp [hasF, settleI, nowI, List.getD_eq_getElem?_getD, hj]
set_option maxRecDepth 100000 in
set_option maxHeartbeats 4000000 in
theorem xwrite (w : World) (p : Nat) (sv1 sv2 : Value) (x : Dk) (k : Nat) (h : RefX w p sv1 sv2 x) (hw : W16 x k) (hk : k ≤ 100000) (i : Int) (hi : I64 i) (d : Value) (xs : List Int) (hd : SlB w d xs) : Calls Try.prog 69 #[.pointer (some ⟨p, 0, none⟩), .int .i64 i, d] w (XPost w p sv1 sv2 (writeI x i xs).1 (writeI x i xs).2) := by
  obtain ⟨A1, cc1, rfl, hx1, hx2⟩ := hd.shape
  obtain ⟨n, hn⟩ : ∃ n, x.has.length = n := ⟨_, rfl⟩
  obtain ⟨L, ar, hF, hL1, hL2⟩ := h
  have hnum := hw.num
  have hnb := hw.wf.num
  rw [hn] at hF hnum hnb
  obtain ⟨g1, c1, rfl⟩ := own_some hF.r1 hnum
  obtain ⟨g2, c2, rfl⟩ := own_some hF.r2 hnum
  have q0 := hF.c0
  have q1 := hF.c1
  have q2 := hF.c2
  have q6 := hF.c6
  have HF := Lib.hid hF
  have HN := Lib.hid hn
  have HW := Lib.hid hw
  have HL : Hid ((ar = true → L = x.left ∧ 0 ≤ L) ∧ (ar = false → x.left = -1)) := Lib.hid ⟨hL1, hL2⟩
  have HDD := Lib.hid hd
  obtain ⟨hiI1, hiI2⟩ := hi
  unfold writeI
  cases hdn : x.down with
  | true =>
    rw [hdn] at q6
    rw [if_pos rfl]
    clear hd hF hw hL1 hL2 hn
    go_enter Try.func69, Try.ntmps69
    go_wp2_with fail
    go_ret
    exact ⟨rfl, ⟨L, ar, by rw [HN.out]; exact HF.out, HL.out⟩, Chg.refl _ _⟩
  | false =>
    rw [hdn] at q6
    rw [if_neg (by simp)]
    by_cases h1 : i < 0
    · rw [show checkI x i xs.length = 11 by unfold checkI; rw [hn, if_pos (.inl h1)], if_pos (by decide)]
      clear hd hF hw hL1 hL2 hn
      go_enter Try.func69, Try.ntmps69
      go_wp2_with fail
      go_ret
      exact ⟨rfl, ⟨L, ar, by rw [HN.out]; exact HF.out, HL.out⟩, Chg.refl _ _⟩
    by_cases h2 : (n : Int) ≤ i
    · rw [show checkI x i xs.length = 11 by unfold checkI; rw [hn, if_pos (.inr h2)], if_pos (by decide)]
      clear hd hF hw hL1 hL2 hn
      go_enter Try.func69, Try.ntmps69
      go_wp2_with fail
      go_ret
      exact ⟨rfl, ⟨L, ar, by rw [HN.out]; exact HF.out, HL.out⟩, Chg.refl _ _⟩
    by_cases h3 : xs.length ≠ x.size
    · have h3' : ((xs.length : Int) != (x.size : Int)) = true := by rw [bne_iff_ne]; omega
      rw [show checkI x i xs.length = 10 by unfold checkI; rw [hn, if_neg (by omega), if_pos h3], if_pos (by decide)]
      clear hd hF hw hL1 hL2 hn
      go_enter Try.func69, Try.ntmps69
      go_wp2_with fail
      go_ret
      exact ⟨rfl, ⟨L, ar, by rw [HN.out]; exact HF.out, HL.out⟩, Chg.refl _ _⟩
    · have h3' : ((xs.length : Int) != (x.size : Int)) = false := by rw [bne_eq_false_iff_eq]; omega
      rw [show checkI x i xs.length = 0 by unfold checkI; rw [hn, if_neg (by omega), if_neg h3], if_neg (by decide)]
      obtain ⟨i, rfl⟩ : ∃ j : Nat, i = j := ⟨i.toNat, by omega⟩
      have HWY : Hid (Wf { x with ca := updI x.ca i (some xs) } k) := Lib.hid ⟨hw.wf.left, hw.wf.done, hw.wf.num, hw.wf.size, hw.wf.has, fun j ys hj => by
        dsimp only at hj ⊢
        unfold updI at hj
        split at hj
        · rename_i e
          injection hj with hj
          subst hj e
          omega
        · exact hw.wf.ca j ys hj⟩
      have HC : Hid (w.drew.cell? ⟨p, 1, none⟩ = some (.slice (some ⟨g2, 0, none⟩) n c2)) := Lib.hid q1
      obtain ⟨s1, hs1⟩ : ∃ s, strOfNums xs = s := ⟨_, rfl⟩
      have HS1 := Lib.hid hs1
      have HDD : Hid (SlB w.drew (.slice A1 xs.length cc1) xs) := HDD
      clear hd hF hw hL1 hL2 hn hs1 h1 h3
      go_enter Try.func69, Try.ntmps69
      go_wp2_with fail
      clear q0 q1 q2 q6
      refine MT.region_mono Up [fun v _ => v = .pointer (some ⟨p, 0, none⟩),
          fun v _ => v = .pointer (some ⟨p, 0, none⟩),
          fun v _ => v = .pointer (some ⟨p, 1, none⟩),
          fun v _ => v = .slice (some ⟨g2, 0, none⟩) n c2,
          fun v _ => v = .int .i64 (i : Int),
          fun v _ => v = .slice A1 xs.length cc1,
          fun v _ => v = .string s1,
          fun v _ => v = .pointer (some ⟨g2, i, none⟩)] (by kernel_rfl) (by kernel_rfl) (Chg.refl _) (fun _ _ _ => Chg.trans) (by simp) ?_ ?_ ?_
      · simp only [List.forall_mem_cons]
        exact ⟨fun _ _ _ _ _ h => h, fun _ _ _ _ _ h => h, fun _ _ _ _ _ h => h, fun _ _ _ _ _ h => h, fun _ _ _ _ _ h => h, fun _ _ _ _ _ h => h, fun _ _ _ _ _ h => h, fun _ _ _ _ _ h => h, by simp⟩
      · refine ⟨?_, ?_, ?_, ?_, ?_, ?_, ?_, ?_, trivial⟩
        · intro ρ w1 hw h0 hc hg hf hd
          have s0 : ρ (.tmp 0) = .pointer (some ⟨p, 0, none⟩) := h0 0 (by kernel_rfl)
          refine ⟨fun _ => ?_, fun h => by cases h⟩
          clear h0 hg hd
          exact gives_move rfl ⟨Chg.refl _ _, s0⟩
        · intro ρ w1 hw h0 hc hg hf hd
          have d0 := hd ⟨0, .data⟩ (by simp) rfl _ _ _ rfl rfl rfl
          refine ⟨fun _ => ?_, fun h => by cases h⟩
          clear h0 hg hd
          clear hf
          refine Gives.value (w' := w1) ?_ ⟨Chg.refl _ _, rfl⟩
          go_simp
        · intro ρ w1 hw h0 hc hg hf hd
          have d1 := hd ⟨1, .data⟩ (by simp) rfl _ _ _ rfl rfl rfl
          refine ⟨fun _ => ?_, fun h => by cases h⟩
          clear h0 hg hd
          clear hf hc
          refine Gives.value (w' := w1) ?_ ⟨Chg.refl _ _, rfl⟩
          go_simp
        · intro ρ w1 hw h0 hc hg hf hd
          have d2 := hd ⟨2, .data⟩ (by simp) rfl _ _ _ rfl rfl rfl
          refine ⟨fun _ => ?_, fun h => by cases h⟩
          clear h0 hg hd
          clear hc hf
          have c1 := hw.cell HC.out (fun h => h)
          refine Gives.value (w' := w1) ?_ ⟨Chg.refl _ _, rfl⟩
          go_simp
        · intro ρ w1 hw h0 hc hg hf hd
          have s1 : ρ (.tmp 1) = .int .i64 (i : Int) := h0 1 (by kernel_rfl)
          refine ⟨fun _ => ?_, fun h => by cases h⟩
          clear h0 hg hd
          exact gives_move rfl ⟨Chg.refl _ _, s1⟩
        · intro ρ w1 hw h0 hc hg hf hd
          have s2 : ρ (.tmp 2) = .slice A1 xs.length cc1 := h0 2 (by kernel_rfl)
          refine ⟨fun _ => ?_, fun h => by cases h⟩
          clear h0 hg hd
          exact gives_move rfl ⟨Chg.refl _ _, s2⟩
        · intro ρ w1 hw h0 hc hg hf hd
          have d5 := hd ⟨5, .data⟩ (by simp) rfl _ _ _ rfl rfl rfl
          refine ⟨fun _ => ?_, fun h => by cases h⟩
          clear h0 hg hd
          rw [← HS1.out]
          exact gives_string rfl (by rw [d5]; exact Src.chg HDD.out hw (fun _ _ _ h => h) (by decide)) ⟨Chg.refl _ _, rfl⟩
        · intro ρ w1 hw h0 hc hg hf hd
          have d3 := hd ⟨3, .data⟩ (by simp) rfl _ _ _ rfl rfl rfl
          have d4 := hd ⟨4, .data⟩ (by simp) rfl _ _ _ rfl rfl rfl
          refine ⟨fun _ => ?_, fun h => by cases h⟩
          clear h0 hg hd
          clear hf
          refine Gives.value (w' := w1) ?_ ⟨Chg.refl _ _, rfl⟩
          go_simp
      · intro vs w2 hw hr
        have h6 := hr 6 _ rfl
        have h7 := hr 7 _ rfl
        clear hr
        dsimp only [putsL, restL]
        simp only [Act.put, List.setIfInBounds_toArray, List.set_cons_zero, List.set_cons_succ]
        simp only [Nat.zero_add, Nat.reduceAdd]
        rw [h6, h7]
        have hu2 : Up w w2 := (Chg.refl (fun _ => False) w).drew.trans hw
        have k2 := HF.out.up hu2
        have f1 : w2.frozen? ⟨g2, i, none⟩ = false := World.ownsRow.frozenAt k2.r2 i
        have z1 := row_at k2.r2 i (by omega)
        have k3 := k2.set2 i xs
        rw [HS1.out] at k3
        have hX : RefX (w2.setCell ⟨g2, i, none⟩ (.string s1)) p (.slice (some ⟨g1, 0, none⟩) n c1) (.slice (some ⟨g2, 0, none⟩) n c2) { x with ca := updI x.ca i (some xs) } := ⟨L, ar, by
          show RefF _ _ _ _ x.has.length _ _ _ _ _ _ _
          rw [HN.out]
          exact k3.congr (fun j _ => rfl) (fun j hj => by
            unfold updN caF updI
            by_cases e : j = i
            · subst e; simp
            · simp [e, show ¬ (j : Int) = i by omega]), HL.out⟩
        have HC4 : Hid (Chg (OwnR p (.slice (some ⟨g1, 0, none⟩) n c1) (.slice (some ⟨g2, 0, none⟩) n c2)) w (w2.setCell ⟨g2, i, none⟩ (.string s1))) := Lib.hid ((hu2.mono (fun _ _ h => h.elim)).setCell ⟨g2, i, none⟩ (.inl (.inr (.inr rfl))) _)
        have HCM := Lib.hid (xcomm _ p _ _ _ k hX HWY.out hk)
        rw [hdn] at HCM
        clear hw h6 h7 hu2 k2 k3 hX
        go_wp2_with fail
        refine HCM.out.mono ?_
        rintro e w3 ⟨rfl, hx3, hc3⟩
        go_wp2_with fail
        go_ret
        exact ⟨rfl, hx3, HC4.out.trans hc3⟩
end Go.Proofs.Ytkndnlhlglgmfaa
