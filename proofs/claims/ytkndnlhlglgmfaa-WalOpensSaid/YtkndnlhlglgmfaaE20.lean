/-
  The document's disk: command, settle, walked.
-/
import Derived.Test.YtkndnlhlglgmfaaE19
namespace Go.Proofs.Ytkndnlhlglgmfaa
open Go.RowKit
def commR (L dn : Int) (ar dw : Bool) : Int × Int × Bool × Int := if ar = true ∧ L = 0 then (L, dn, true, 30) else (if ar = true then L - 1 else L, dn + 1, dw, 0)
def RF (w : World) (p : Nat) (sv1 sv2 : Value) (n size : Nat) (L dn : Int) (ar dw : Bool) (h c : Nat → List Int) (r : Int) (e : Ending) (w' : World) : Prop := e = .returned (.int .i64 r) ∧ RefF w' p sv1 sv2 n size L dn ar dw h c ∧ Chg (OwnR p sv1 sv2) w w'
set_option maxRecDepth 100000 in
set_option maxHeartbeats 4000000 in
theorem rcomm_any (w : World) (p : Nat) (sv1 sv2 : Value) (n size : Nat) (L dn : Int) (ar dw : Bool) (h c : Nat → List Int) (k : RefF w p sv1 sv2 n size L dn ar dw h c) (hL : ar = true → 0 ≤ L ∧ L ≤ 9223372036854775807) (hd : 0 ≤ dn ∧ dn ≤ 1000000) : Calls Try.prog 88 #[.pointer (some ⟨p, 0, none⟩)] w (RF w p sv1 sv2 n size (commR L dn ar dw).1 (commR L dn ar dw).2.1 ar (commR L dn ar dw).2.2.1 h c (commR L dn ar dw).2.2.2) := by
  have q3 := k.c3
  have q4 := k.c4
  have q5 := k.c5
  have q6 := k.c6
  have f3 := k.fz 3
  have f4 := k.fz 4
  have f6 := k.fz 6
  have H := Lib.hid k
  clear k
  unfold commR
  cases ar with
  | false =>
    rw [if_neg (by simp), if_neg (by simp)]
    clear hL
    go_enter Try.func88, Try.ntmps88
    go_wp2_with fail
    go_ret
    have hc : Chg (fun i => i = p) w (w.setCell ⟨p, 4, none⟩ (.int .i64 (dn + 1))) := (Chg.refl (fun i => i = p) w).setCell ⟨p, 4, none⟩ (.inl rfl) _
    exact ⟨rfl, H.out.nums hc (by rw [heap_setCell_same w p 4 _ _ _ H.out.obj]; rfl), hc.mono (fun j _ hj => .inl hj)⟩
  | true =>
    obtain ⟨hL1, hL2⟩ := hL rfl
    clear hL
    by_cases h0 : L = 0
    · rw [if_pos ⟨rfl, h0⟩]
      have h0' : (L == 0) = true := by rw [beq_iff_eq]; exact h0
      go_enter Try.func88, Try.ntmps88
      go_wp2_with fail
      go_ret
      have hc : Chg (fun i => i = p) w (w.setCell ⟨p, 6, none⟩ (.bool true)) := (Chg.refl (fun i => i = p) w).setCell ⟨p, 6, none⟩ (.inl rfl) _
      exact ⟨rfl, H.out.nums hc (by rw [heap_setCell_same w p 6 _ _ _ H.out.obj]; rfl), hc.mono (fun j _ hj => .inl hj)⟩
    · rw [if_neg (fun h => h0 h.2), if_pos rfl]
      have h0' : (L == 0) = false := by rw [beq_eq_false_iff_ne]; exact h0
      go_enter Try.func88, Try.ntmps88
      go_wp2_with fail
      go_ret
      have hc : Chg (fun i => i = p) w ((w.setCell ⟨p, 3, none⟩ (.int .i64 (L - 1))).setCell ⟨p, 4, none⟩ (.int .i64 (dn + 1))) := ((Chg.refl (fun i => i = p) w).setCell ⟨p, 3, none⟩ (.inl rfl) _).setCell ⟨p, 4, none⟩ (.inl rfl) _
      exact ⟨rfl, H.out.nums hc (by rw [heap_setCell_same _ p 4 _ _ _ (heap_setCell_same w p 3 _ _ _ H.out.obj)]; rfl), hc.mono (fun j _ hj => .inl hj)⟩
def stH (h c : Nat → List Int) (k : Nat) : Nat → List Int := fun j => if j < k then (if c j = [] then h j else c j) else h j
def stC (c : Nat → List Int) (k : Nat) : Nat → List Int := fun j => if j < k then [] else c j
theorem st_skip {h c : Nat → List Int} {k : Nat} (hk : c k = []) (j : Nat) : stH h c k j = stH h c (k + 1) j ∧ stC c k j = stC c (k + 1) j := by
  unfold stH stC
  by_cases e : j = k
  · subst e; simp [hk]
  · by_cases h1 : j < k
    · simp [h1, show j < k + 1 by omega]
    · simp [h1, show ¬ j < k + 1 by omega]
theorem st_step {h c : Nat → List Int} {k : Nat} (hk : ¬ c k = []) (j : Nat) : updN (stH h c k) k (c k) j = stH h c (k + 1) j ∧ updN (stC c k) k [] j = stC c (k + 1) j := by
  unfold updN stH stC
  by_cases e : j = k
  · subst e; simp [hk]
  · by_cases h1 : j < k
    · simp [e, h1, show j < k + 1 by omega]
    · simp [e, h1, show ¬ j < k + 1 by omega]
set_option maxRecDepth 100000 in
set_option maxHeartbeats 4000000 in
theorem rsettle_any (w : World) (p : Nat) (sv1 sv2 : Value) (n size : Nat) (L dn : Int) (ar dw : Bool) (h c : Nat → List Int) (k : RefF w p sv1 sv2 n size L dn ar dw h c) (hn : 0 < n) (hnb : n ≤ 65536) : Calls Try.prog 72 #[.pointer (some ⟨p, 0, none⟩)] w (fun e w' => (∃ u, e = .returned u) ∧ RefF w' p sv1 sv2 n size L dn ar dw (fun j => if c j = [] then h j else c j) (fun _ => []) ∧ Chg (OwnR p sv1 sv2) w w') := by
  obtain ⟨g1, c1, rfl⟩ := own_some k.r1 hn
  obtain ⟨g2, c2, rfl⟩ := own_some k.r2 hn
  have H0 := Lib.hid k
  clear k
  go_enter Try.func72, Try.ntmps72
  go_wp2_with fail
  go_loopw [2] (fun t wr => ∃ i : Nat, i ≤ n ∧ t = .int .i64 i ∧ RefF wr p (.slice (some ⟨g1, 0, none⟩) n c1) (.slice (some ⟨g2, 0, none⟩) n c2) n size L dn ar dw (stH h c i) (stC c i) ∧ Chg (OwnR p (.slice (some ⟨g1, 0, none⟩) n c1) (.slice (some ⟨g2, 0, none⟩) n c2)) w wr) (fun t _ => n - (intOf t).toNat)
  case atStart => exact ⟨0, by omega, rfl, H0.out.congr (fun j _ => by unfold stH; rw [if_neg (by omega)]) (fun j _ => by unfold stC; rw [if_neg (by omega)]), Chg.refl _ _⟩
  case round =>
    rename World => wr
    obtain ⟨i, hi, rfl, hd, hch⟩ := hrel
    have q0 := hd.c0
    have q1 := hd.c1
    have HD := Lib.hid hd
    have HCH := Lib.hid hch
    by_cases hk2 : (i : Int) < n
    · have z2 := row_at hd.r2 i (by omega)
      have e0 : stC c i i = c i := by unfold stC; rw [if_neg (by omega)]
      rw [e0] at z2
      have hz := str_none (c i)
      obtain ⟨s2, e2⟩ : ∃ s, strOfNums (c i) = s := ⟨_, rfl⟩
      rw [e2] at z2 hz
      clear hd hch
      by_cases h0 : c i = []
      · have hz' : (s2.toList == ([] : List UInt8)) = true := by rw [hz, h0]; rfl
        have HS := Lib.hid (st_skip (h := h) h0)
        clear h0 e2 hz e0
        go_wp2_with fail
        exact ⟨⟨i + 1, by omega, by go_num, HD.out.congr (fun j _ => (HS.out j).1) (fun j _ => (HS.out j).2), HCH.out⟩, by simp [intOf]; omega⟩
      · have hz' : (s2.toList == ([] : List UInt8)) = false := by rw [hz, beq_eq_false_iff_ne]; exact h0
        have HS := Lib.hid (st_step (h := h) h0)
        have HE2 := Lib.hid e2
        have HC0 : Hid (wr.drew.cell? ⟨p, 0, none⟩ = some (.slice (some ⟨g1, 0, none⟩) n c1)) := Lib.hid q0
        have HC1 : Hid (wr.drew.cell? ⟨p, 1, none⟩ = some (.slice (some ⟨g2, 0, none⟩) n c2)) := Lib.hid q1
        have HZ2 : Hid (wr.drew.cell? ⟨g2, i, none⟩ = some (.string s2)) := Lib.hid z2
        clear h0 e2 hz e0
        go_wp2_with fail
        clear q0 q1 z2
        refine MT.region_mono Up [fun v _ => v = .pointer (some ⟨p, 0, none⟩),
            fun v _ => v = .pointer (some ⟨p, 0, none⟩),
            fun v _ => v = .pointer (some ⟨p, 0, none⟩),
            fun v _ => v = .slice (some ⟨g1, 0, none⟩) n c1,
            fun v _ => v = .int .i64 (i : Int),
            fun v _ => v = .pointer (some ⟨p, 0, none⟩),
            fun v _ => v = .pointer (some ⟨p, 0, none⟩),
            fun v _ => v = .pointer (some ⟨p, 1, none⟩),
            fun v _ => v = .slice (some ⟨g2, 0, none⟩) n c2,
            fun v _ => v = .int .i64 (i : Int),
            fun v _ => v = .pointer (some ⟨g2, i, none⟩),
            fun v _ => v = .string s2,
            fun v _ => v = .pointer (some ⟨g1, i, none⟩)] (by kernel_rfl) (by kernel_rfl) (Chg.refl _) (fun _ _ _ => Chg.trans) (by simp) ?_ ?_ ?_
        · simp only [List.forall_mem_cons]
          exact ⟨fun _ _ _ _ _ h => h, fun _ _ _ _ _ h => h, fun _ _ _ _ _ h => h, fun _ _ _ _ _ h => h, fun _ _ _ _ _ h => h, fun _ _ _ _ _ h => h, fun _ _ _ _ _ h => h, fun _ _ _ _ _ h => h, fun _ _ _ _ _ h => h, fun _ _ _ _ _ h => h, fun _ _ _ _ _ h => h, fun _ _ _ _ _ h => h, fun _ _ _ _ _ h => h, by simp⟩
        · refine ⟨?_, ?_, ?_, ?_, ?_, ?_, ?_, ?_, ?_, ?_, ?_, ?_, ?_, trivial⟩
          · intro ρ w1 hw h0 hc hg hf hd
            have s0 : ρ (.tmp 0) = .pointer (some ⟨p, 0, none⟩) := h0 0 (by kernel_rfl)
            refine ⟨fun _ => ?_, fun h => by cases h⟩
            clear h0 hg hd
            exact gives_move rfl ⟨Chg.refl _ _, s0⟩
          · intro ρ w1 hw h0 hc hg hf hd
            have d0 := hd ⟨0, .data⟩ (by simp) rfl _ _ _ rfl rfl rfl
            refine ⟨fun _ => ?_, fun h => by cases h⟩
            clear h0 hg hd
            clear hf
            refine Gives.value (w' := w1) ?_ ⟨Chg.refl _ _, rfl⟩
            go_simp
          · intro ρ w1 hw h0 hc hg hf hd
            have d1 := hd ⟨1, .data⟩ (by simp) rfl _ _ _ rfl rfl rfl
            refine ⟨fun _ => ?_, fun h => by cases h⟩
            clear h0 hg hd
            clear hf
            refine Gives.value (w' := w1) ?_ ⟨Chg.refl _ _, rfl⟩
            go_simp
          · intro ρ w1 hw h0 hc hg hf hd
            have d2 := hd ⟨2, .data⟩ (by simp) rfl _ _ _ rfl rfl rfl
            refine ⟨fun _ => ?_, fun h => by cases h⟩
            clear h0 hg hd
            clear hc hf
            have c1 := hw.cell HC0.out (fun h => h)
            refine Gives.value (w' := w1) ?_ ⟨Chg.refl _ _, rfl⟩
            go_simp
          · intro ρ w1 hw h0 hc hg hf hd
            have s2 : ρ (.tmp 2) = .int .i64 (i : Int) := h0 2 (by kernel_rfl)
            refine ⟨fun _ => ?_, fun h => by cases h⟩
            clear h0 hg hd
            exact gives_move rfl ⟨Chg.refl _ _, s2⟩
          · intro ρ w1 hw h0 hc hg hf hd
            have s0 : ρ (.tmp 0) = .pointer (some ⟨p, 0, none⟩) := h0 0 (by kernel_rfl)
            refine ⟨fun _ => ?_, fun h => by cases h⟩
            clear h0 hg hd
            exact gives_move rfl ⟨Chg.refl _ _, s0⟩
          · intro ρ w1 hw h0 hc hg hf hd
            have d5 := hd ⟨5, .data⟩ (by simp) rfl _ _ _ rfl rfl rfl
            refine ⟨fun _ => ?_, fun h => by cases h⟩
            clear h0 hg hd
            clear hf
            refine Gives.value (w' := w1) ?_ ⟨Chg.refl _ _, rfl⟩
            go_simp
          · intro ρ w1 hw h0 hc hg hf hd
            have d6 := hd ⟨6, .data⟩ (by simp) rfl _ _ _ rfl rfl rfl
            refine ⟨fun _ => ?_, fun h => by cases h⟩
            clear h0 hg hd
            clear hf
            refine Gives.value (w' := w1) ?_ ⟨Chg.refl _ _, rfl⟩
            go_simp
          · intro ρ w1 hw h0 hc hg hf hd
            have d7 := hd ⟨7, .data⟩ (by simp) rfl _ _ _ rfl rfl rfl
            refine ⟨fun _ => ?_, fun h => by cases h⟩
            clear h0 hg hd
            clear hc hf
            have c1 := hw.cell HC1.out (fun h => h)
            refine Gives.value (w' := w1) ?_ ⟨Chg.refl _ _, rfl⟩
            go_simp
          · intro ρ w1 hw h0 hc hg hf hd
            have s2 : ρ (.tmp 2) = .int .i64 (i : Int) := h0 2 (by kernel_rfl)
            refine ⟨fun _ => ?_, fun h => by cases h⟩
            clear h0 hg hd
            exact gives_move rfl ⟨Chg.refl _ _, s2⟩
          · intro ρ w1 hw h0 hc hg hf hd
            have d8 := hd ⟨8, .data⟩ (by simp) rfl _ _ _ rfl rfl rfl
            have d9 := hd ⟨9, .data⟩ (by simp) rfl _ _ _ rfl rfl rfl
            refine ⟨fun _ => ?_, fun h => by cases h⟩
            clear h0 hg hd
            clear hf
            refine Gives.value (w' := w1) ?_ ⟨Chg.refl _ _, rfl⟩
            go_simp
          · intro ρ w1 hw h0 hc hg hf hd
            have d10 := hd ⟨10, .data⟩ (by simp) rfl _ _ _ rfl rfl rfl
            refine ⟨fun _ => ?_, fun h => by cases h⟩
            clear h0 hg hd
            clear hc hf
            have c1 := hw.cell HZ2.out (fun h => h)
            refine Gives.value (w' := w1) ?_ ⟨Chg.refl _ _, rfl⟩
            go_simp
          · intro ρ w1 hw h0 hc hg hf hd
            have d3 := hd ⟨3, .data⟩ (by simp) rfl _ _ _ rfl rfl rfl
            have d4 := hd ⟨4, .data⟩ (by simp) rfl _ _ _ rfl rfl rfl
            refine ⟨fun _ => ?_, fun h => by cases h⟩
            clear h0 hg hd
            clear hf
            refine Gives.value (w' := w1) ?_ ⟨Chg.refl _ _, rfl⟩
            go_simp
        · intro vs w2 hw hr
          have h11 := hr 11 _ rfl
          have h12 := hr 12 _ rfl
          clear hr
          dsimp only [putsL, restL]
          simp only [Act.put, List.setIfInBounds_toArray, List.set_cons_zero, List.set_cons_succ]
          simp only [Nat.zero_add, Nat.reduceAdd]
          rw [h11, h12]
          have hu2 : Up wr w2 := (Chg.refl (fun _ => False) wr).drew.trans hw
          have k2 := HD.out.up hu2
          have f1 : w2.frozen? ⟨g1, i, none⟩ = false := World.ownsRow.frozenAt k2.r1 i
          have z1 := row_at k2.r1 i (by omega)
          have k3 := k2.set1 i (c i)
          rw [HE2.out] at k3
          have q3 := k3.c1
          have f3 : (w2.setCell ⟨g1, i, none⟩ (.string s2)).frozen? ⟨g2, i, none⟩ = false := World.ownsRow.frozenAt k3.r2 i
          have z3 := row_at k3.r2 i (by omega)
          have HK4 := Lib.hid (k3.set2 i [])
          have HC4 : Hid (Chg (OwnR p (.slice (some ⟨g1, 0, none⟩) n c1) (.slice (some ⟨g2, 0, none⟩) n c2)) w ((w2.setCell ⟨g1, i, none⟩ (.string s2)).setCell ⟨g2, i, none⟩ (.string (strOfNums [])))) := Lib.hid (((HCH.out.then hu2 (fun _ h => h.elim)).setCell ⟨g1, i, none⟩ (.inl (.inr (.inl rfl))) _).setCell ⟨g2, i, none⟩ (.inl (.inr (.inr rfl))) _)
          clear hw h11 h12 hu2 k2 k3
          go_wp2_with fail
          exact ⟨⟨i + 1, by omega, by go_num, HK4.out.congr (fun j _ => (HS.out j).1) (fun j _ => (HS.out j).2), HC4.out⟩, by simp [intOf]; omega⟩
    · obtain rfl : i = n := by omega
      clear hd hch
      go_wp2_with fail
      go_end0
      exact ⟨⟨_, rfl⟩, HD.out.congr (fun j hj => by unfold stH; rw [if_pos hj]) (fun j hj => by unfold stC; rw [if_pos hj]), HCH.out⟩
end Go.Proofs.Ytkndnlhlglgmfaa
