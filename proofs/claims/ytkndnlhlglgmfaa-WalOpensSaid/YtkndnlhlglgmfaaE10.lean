/-
  A fixed answer: awake, walked.
-/
import Derived.Test.YtkndnlhlglgmfaaE9
namespace Go.Proofs.Ytkndnlhlglgmfaa
open Go.RowKit
def rep (n : Nat) (c : Int) : List Int := List.replicate n c
theorem rep_bytes (n : Nat) (c : Int) (h : 0 ≤ c ∧ c ≤ 255) : Bytes (rep n c) := fun j => by
  unfold rep
  by_cases hj : j < n
  · simp [List.getD_eq_getElem?_getD, hj]; exact h
  · simp [List.getD_eq_getElem?_getD, hj]
theorem full_dat (w : World) (c : Int) : Calls Try.prog 48 #[.int .u8 c] w (fun e w' => ∃ v, e = .returned v ∧ DatB w' v (rep 16 c) ∧ Below w.heap.size w w') :=
  (full_any w c).mono (by
    rintro e w' ⟨v, rfl, h, hb⟩
    exact ⟨v, rfl, by unfold DatB; have := own_base h (Nat.zero_le _); simpa [rep] using this, hb⟩)
def TruePost (w : World) (e : Ending) (w' : World) : Prop := e = .returned (.bool true) ∧ Below w.heap.size w w'
theorem num_src (W : World) (z : Int) : SlI (W.alloc (.cells #[.int .i64 z] 3)) (.slice (some ⟨W.heap.size, 0, none⟩) 1 1) [z] :=
  .inr ⟨⟨W.heap.size, 0, none⟩, 1, rfl, rfl, Nat.le_refl _, by simp, fun j u hu => by
    have hj : j < 1 := (List.getElem?_eq_some_iff.1 hu).1
    obtain rfl : j = 0 := by omega
    injection hu with hu
    subst hu
    rw [addr_add]
    rw [cell_of_row _ _ _ _ _ _ (heap_alloc_last W _)]; rfl⟩
set_option maxRecDepth 100000 in
set_option maxHeartbeats 4000000 in
theorem awake_any (w : World) : Calls Try.prog 13 #[] w (TruePost w) := by
  go_enter Try.func13, Try.ntmps13
  go_wp2_with fail
  refine (dnew w 8 16 (by unfold FormOk; omega)).mono ?_
  rintro e W0 ⟨p, b, rfl, hd0, hb0⟩
  have HDK0 := Lib.hid hd0
  have HWF0 := Lib.hid (Wf.fresh 8 16 (by omega) (by omega))
  have HC0 := Lib.hid (show Chg (fun i => w.heap.size ≤ i) w W0 from (up_below hb0).mono (fun _ _ h => h.elim))
  clear hd0 hb0
  go_wp2_with fail
  refine (full_dat _ 1).mono ?_
  rintro e wf1 ⟨dv1, rfl, hdt, hb⟩
  have HD1' := Lib.hid ((HDK0.out).below hb)
  have HC1' := Lib.hid (HC0.out.then (up_below hb) (fun _ h => h.elim))
  have HW1 := Lib.hid (dwrite wf1 p b w.heap.size _ 0 HD1'.out HWF0.out (by omega) 3 dv1 (rep 16 1) (DatB.slb hdt) (by decide))
  rw [show (writeI (freshI 8 16) 3 (rep 16 1)).2 = 0 by decide] at HW1
  clear hdt hb
  go_wp2_with fail
  refine HW1.out.mono ?_
  rintro e W1 ⟨rfl, hd, hc⟩
  have HDK1 := Lib.hid hd
  have HWF1 := Lib.hid (HWF0.out.write 3 (rep 16 1))
  have HC1 := Lib.hid (HC1'.out.then hc (fun i hi => .inr hi))
  clear hd hc HW1 HD1' HC1' HDK0 HWF0 HC0
  go_wp2_with fail
  refine (full_dat _ 2).mono ?_
  rintro e wf2 ⟨dv2, rfl, hdt, hb⟩
  have HD2' := Lib.hid ((HDK1.out).below hb)
  have HC2' := Lib.hid (HC1.out.then (up_below hb) (fun _ h => h.elim))
  have HW2 := Lib.hid (dwrite wf2 p b w.heap.size _ 1 HD2'.out HWF1.out (by omega) 5 dv2 (rep 16 2) (DatB.slb hdt) (by decide))
  rw [show (writeI (writeI (freshI 8 16) 3 (rep 16 1)).1 5 (rep 16 2)).2 = 0 by decide] at HW2
  clear hdt hb
  go_wp2_with fail
  refine HW2.out.mono ?_
  rintro e W2 ⟨rfl, hd, hc⟩
  have HDK2 := Lib.hid hd
  have HWF2 := Lib.hid (HWF1.out.write 5 (rep 16 2))
  have HC2 := Lib.hid (HC2'.out.then hc (fun i hi => .inr hi))
  clear hd hc HW2 HD2' HC2' HDK1 HWF1 HC1
  go_wp2_with fail
  have HS := Lib.hid (dcrash W2 _ p b w.heap.size _ 2 HDK2.out ((Chg.refl (fun _ => False) W2).alloc (.cells #[.int .i64 3] 3)) HWF2.out (.slice (some ⟨W2.heap.size, 0, none⟩) 1 1) [3] (num_src W2 3) (fun j => by
    cases j with
    | zero => simp [I64]
    | succ j => simp [I64]) (by decide) (fun g hg _ => by injection hg with hg; subst hg; exact .inr (Nat.le_refl _)))
  refine HS.out.mono ?_
  rintro e W3 ⟨⟨u, rfl⟩, hd3, hc3⟩
  have HDK3 := Lib.hid hd3
  have HWF3 := Lib.hid (HWF2.out.crash [3])
  have HC3 := Lib.hid ((HC2.out.then ((Chg.refl (fun _ => False) W2).alloc (.cells #[.int .i64 3] 3)) (fun _ h => h.elim)).then hc3 (fun i hi => .inr hi))
  clear hd3 hc3 HS HDK2 HWF2 HC2
  have HR1 := Lib.hid (dread W3 p b w.heap.size _ 2 HDK3.out HWF3.out 3 ⟨by omega, by omega⟩)
  rw [show (readI (crashI (writeI (writeI (freshI 8 16) 3 (rep 16 1)).1 5 (rep 16 2)).1 [3]) 3) = (rep 16 0, 0) by decide] at HR1
  go_wp2_with fail
  refine HR1.out.mono ?_
  rintro e W4 ⟨v1, rfl, ho4, hb4⟩
  have HV4 := Lib.hid (own_base ho4 (Nat.zero_le _))
  have HDK4 := Lib.hid (HDK3.out.below hb4)
  have HC4 := Lib.hid (HC3.out.then (up_below hb4) (fun _ h => h.elim))
  clear ho4 hb4 HR1 HDK3 HC3
  have HR2 := Lib.hid (dread W4 p b w.heap.size _ 2 HDK4.out HWF3.out 5 ⟨by omega, by omega⟩)
  rw [show (readI (crashI (writeI (writeI (freshI 8 16) 3 (rep 16 1)).1 5 (rep 16 2)).1 [3]) 5) = (rep 16 2, 0) by decide] at HR2
  go_wp2_with fail
  refine HR2.out.mono ?_
  rintro e W5 ⟨v2, rfl, ho5, hb5⟩
  have HV2 : Hid (DatB W5.drew v2 (rep 16 2)) := Lib.hid (own_base ho5 (Nat.zero_le _))
  have hv1 : DatB W5 v1 (rep 16 0) := own_chg HV4.out (up_below hb5) (fun _ _ h => h)
  have HV1 : Hid (DatB W5.drew v1 (rep 16 0)) := Lib.hid hv1
  have hc5 : Chg (fun i => w.heap.size ≤ i) w W5 := HC4.out.then (up_below hb5) (fun _ h => h.elim)
  have HC5 : Hid (Chg (fun i => w.heap.size ≤ i) w W5.drew) := Lib.hid hc5.drew
  clear hv1 hc5
  clear ho5 hb5 HR2 HDK4 HC4 HV4
  go_wp2_with fail
  refine MT.region_mono Up [fun v _ => v = .int .i64 0,
      fun v _ => v = .bool true,
      fun v _ => v = .bool true,
      fun v _ => v = .int .i64 0,
      fun v _ => v = .bool true,
      fun v _ => v = .bool true,
      fun v _ => v = .bool true,
      fun v _ => v = v1,
      fun v _ => v = .string (strOfNums (rep 16 0)),
      fun v W => DatB W v (rep 16 0),
      fun v _ => v = .string (strOfNums (rep 16 0)),
      fun v _ => v = .bool true,
      fun v _ => v = .bool true,
      fun v _ => v = .bool true,
      fun v _ => v = v2,
      fun v _ => v = .string (strOfNums (rep 16 2)),
      fun v W => DatB W v (rep 16 2),
      fun v _ => v = .string (strOfNums (rep 16 2)),
      fun v _ => v = .bool true,
      fun v _ => v = .bool true] (by kernel_rfl) (by kernel_rfl) (Chg.refl _) (fun _ _ _ => Chg.trans) (by simp) ?_ ?_ ?_
  · simp only [List.forall_mem_cons]
    exact ⟨fun _ _ _ _ _ h => h, fun _ _ _ _ _ h => h, fun _ _ _ _ _ h => h, fun _ _ _ _ _ h => h, fun _ _ _ _ _ h => h, fun _ _ _ _ _ h => h, fun _ _ _ _ _ h => h, fun _ _ _ _ _ h => h, fun _ _ _ _ _ h => h, fun _ _ _ _ hu h => own_chg h hu (fun _ _ h => h), fun _ _ _ _ _ h => h, fun _ _ _ _ _ h => h, fun _ _ _ _ _ h => h, fun _ _ _ _ _ h => h, fun _ _ _ _ _ h => h, fun _ _ _ _ _ h => h, fun _ _ _ _ hu h => own_chg h hu (fun _ _ h => h), fun _ _ _ _ _ h => h, fun _ _ _ _ _ h => h, fun _ _ _ _ _ h => h, by simp⟩
  · refine ⟨?_, ?_, ?_, ?_, ?_, ?_, ?_, ?_, ?_, ?_, ?_, ?_, ?_, ?_, ?_, ?_, ?_, ?_, ?_, ?_, trivial⟩
    · intro ρ w1 hw h0 hc hg hf hd
      have s3 : ρ (.tmp 3) = .int .i64 0 := h0 3 (by kernel_rfl)
      refine ⟨fun _ => ?_, fun h => by cases h⟩
      clear h0 hg hd
      exact gives_move rfl ⟨Chg.refl _ _, s3⟩
    · intro ρ w1 hw h0 hc hg hf hd
      have d0 := hd ⟨0, .data⟩ (by simp) rfl _ _ _ rfl rfl rfl
      refine ⟨fun _ => ?_, fun h => by cases h⟩
      clear h0 hg hd
      clear hf
      refine Gives.value (w' := w1) ?_ ⟨Chg.refl _ _, rfl⟩
      go_simp
    · intro ρ w1 hw h0 hc hg hf hd
      have d1 := hd ⟨1, .data⟩ (by simp) rfl _ _ _ rfl rfl rfl
      refine ⟨fun _ => ?_, fun h => by cases h⟩
      clear h0 hg hd
      exact gives_move rfl ⟨Chg.refl _ _, d1⟩
    · intro ρ w1 hw h0 hc hg hf hd
      have d2 := hd ⟨2, .guard⟩ (by simp) rfl _ _ _ rfl rfl rfl
      have s5 : ρ (.tmp 5) = .int .i64 0 := h0 5 (by kernel_rfl)
      refine ⟨fun _ => ?_, fun h => by rw [wantedBy_true rfl rfl rfl d2] at h; cases h⟩
      clear d2
      clear h0 hg hd
      exact gives_move rfl ⟨Chg.refl _ _, s5⟩
    · intro ρ w1 hw h0 hc hg hf hd
      have d3 := hd ⟨3, .data⟩ (by simp) rfl _ _ _ rfl rfl rfl
      have d2 := hd ⟨2, .guard⟩ (by simp) rfl _ _ _ rfl rfl rfl
      refine ⟨fun _ => ?_, fun h => by rw [wantedBy_true rfl rfl rfl d2] at h; cases h⟩
      clear d2
      clear h0 hg hd
      clear hf
      refine Gives.value (w' := w1) ?_ ⟨Chg.refl _ _, rfl⟩
      go_simp
    · intro ρ w1 hw h0 hc hg hf hd
      have d2 := hd ⟨2, .data⟩ (by simp) rfl _ _ _ rfl rfl rfl
      have d4 := hd ⟨4, .data⟩ (by simp) rfl _ _ _ rfl rfl rfl
      refine ⟨fun _ => ?_, fun h => by cases h⟩
      clear h0 hg hd
      clear hf
      refine Gives.value (w' := w1) ?_ ⟨Chg.refl _ _, rfl⟩
      go_simp
    · intro ρ w1 hw h0 hc hg hf hd
      have d5 := hd ⟨5, .data⟩ (by simp) rfl _ _ _ rfl rfl rfl
      refine ⟨fun _ => ?_, fun h => by cases h⟩
      clear h0 hg hd
      exact gives_move rfl ⟨Chg.refl _ _, d5⟩
    · intro ρ w1 hw h0 hc hg hf hd
      have d6 := hd ⟨6, .guard⟩ (by simp) rfl _ _ _ rfl rfl rfl
      have s2 : ρ (.tmp 2) = v1 := h0 2 (by kernel_rfl)
      refine ⟨fun _ => ?_, fun h => by rw [wantedBy_true rfl rfl rfl d6] at h; cases h⟩
      clear d6
      clear h0 hg hd
      exact gives_move rfl ⟨Chg.refl _ _, s2⟩
    · intro ρ w1 hw h0 hc hg hf hd
      have d7 := hd ⟨7, .data⟩ (by simp) rfl _ _ _ rfl rfl rfl
      have d6 := hd ⟨6, .guard⟩ (by simp) rfl _ _ _ rfl rfl rfl
      refine ⟨fun _ => ?_, fun h => by rw [wantedBy_true rfl rfl rfl d6] at h; cases h⟩
      clear d6
      clear h0 hg hd
      exact gives_string rfl (by rw [d7]; exact DatB.slb (own_chg HV1.out hw (fun _ _ h => h))) ⟨Chg.refl _ _, rfl⟩
    · intro ρ w1 hw h0 hc hg hf hd
      have d6 := hd ⟨6, .chain⟩ (by simp) rfl _ _ _ rfl rfl rfl
      refine ⟨fun _ => ?_, fun h => by rw [wantedBy_true rfl rfl rfl d6] at h; cases h⟩
      clear d6
      clear h0 hg hd
      exact gives_call rfl hf Try.func48 rfl (by kernel_rfl) (args := #[.int .u8 0]) (by simp [hc]) ((full_dat w1 0).mono (by
        rintro e w2 ⟨v, rfl, hdt, hb⟩
        exact ⟨_, rfl, up_below hb, hdt⟩))
    · intro ρ w1 hw h0 hc hg hf hd
      have d9 := hd ⟨9, .data⟩ (by simp) rfl _ _ _ rfl rfl rfl
      have d6 := hd ⟨6, .guard⟩ (by simp) rfl _ _ _ rfl rfl rfl
      refine ⟨fun _ => ?_, fun h => by rw [wantedBy_true rfl rfl rfl d6] at h; cases h⟩
      clear d6
      clear h0 hg hd
      exact gives_string rfl (DatB.slb d9) ⟨Chg.refl _ _, rfl⟩
    · intro ρ w1 hw h0 hc hg hf hd
      have d8 := hd ⟨8, .data⟩ (by simp) rfl _ _ _ rfl rfl rfl
      have d10 := hd ⟨10, .data⟩ (by simp) rfl _ _ _ rfl rfl rfl
      have d6 := hd ⟨6, .guard⟩ (by simp) rfl _ _ _ rfl rfl rfl
      refine ⟨fun _ => ?_, fun h => by rw [wantedBy_true rfl rfl rfl d6] at h; cases h⟩
      clear d6
      clear h0 hg hd
      exact gives_streq rfl d8 d10 (rep_bytes 16 0 (by omega)) (rep_bytes 16 0 (by omega)) (by rw [show (rep 16 0 == rep 16 0) = true by decide]; exact ⟨Chg.refl _ _, rfl⟩)
    · intro ρ w1 hw h0 hc hg hf hd
      have d6 := hd ⟨6, .data⟩ (by simp) rfl _ _ _ rfl rfl rfl
      have d11 := hd ⟨11, .data⟩ (by simp) rfl _ _ _ rfl rfl rfl
      refine ⟨fun _ => ?_, fun h => by cases h⟩
      clear h0 hg hd
      clear hf
      refine Gives.value (w' := w1) ?_ ⟨Chg.refl _ _, rfl⟩
      go_simp
    · intro ρ w1 hw h0 hc hg hf hd
      have d12 := hd ⟨12, .data⟩ (by simp) rfl _ _ _ rfl rfl rfl
      refine ⟨fun _ => ?_, fun h => by cases h⟩
      clear h0 hg hd
      exact gives_move rfl ⟨Chg.refl _ _, d12⟩
    · intro ρ w1 hw h0 hc hg hf hd
      have d13 := hd ⟨13, .guard⟩ (by simp) rfl _ _ _ rfl rfl rfl
      have s4 : ρ (.tmp 4) = v2 := h0 4 (by kernel_rfl)
      refine ⟨fun _ => ?_, fun h => by rw [wantedBy_true rfl rfl rfl d13] at h; cases h⟩
      clear d13
      clear h0 hg hd
      exact gives_move rfl ⟨Chg.refl _ _, s4⟩
    · intro ρ w1 hw h0 hc hg hf hd
      have d14 := hd ⟨14, .data⟩ (by simp) rfl _ _ _ rfl rfl rfl
      have d13 := hd ⟨13, .guard⟩ (by simp) rfl _ _ _ rfl rfl rfl
      refine ⟨fun _ => ?_, fun h => by rw [wantedBy_true rfl rfl rfl d13] at h; cases h⟩
      clear d13
      clear h0 hg hd
      exact gives_string rfl (by rw [d14]; exact DatB.slb (own_chg HV2.out hw (fun _ _ h => h))) ⟨Chg.refl _ _, rfl⟩
    · intro ρ w1 hw h0 hc hg hf hd
      have d13 := hd ⟨13, .chain⟩ (by simp) rfl _ _ _ rfl rfl rfl
      refine ⟨fun _ => ?_, fun h => by rw [wantedBy_true rfl rfl rfl d13] at h; cases h⟩
      clear d13
      clear h0 hg hd
      exact gives_call rfl hf Try.func48 rfl (by kernel_rfl) (args := #[.int .u8 2]) (by simp [hc]) ((full_dat w1 2).mono (by
        rintro e w2 ⟨v, rfl, hdt, hb⟩
        exact ⟨_, rfl, up_below hb, hdt⟩))
    · intro ρ w1 hw h0 hc hg hf hd
      have d16 := hd ⟨16, .data⟩ (by simp) rfl _ _ _ rfl rfl rfl
      have d13 := hd ⟨13, .guard⟩ (by simp) rfl _ _ _ rfl rfl rfl
      refine ⟨fun _ => ?_, fun h => by rw [wantedBy_true rfl rfl rfl d13] at h; cases h⟩
      clear d13
      clear h0 hg hd
      exact gives_string rfl (DatB.slb d16) ⟨Chg.refl _ _, rfl⟩
    · intro ρ w1 hw h0 hc hg hf hd
      have d15 := hd ⟨15, .data⟩ (by simp) rfl _ _ _ rfl rfl rfl
      have d17 := hd ⟨17, .data⟩ (by simp) rfl _ _ _ rfl rfl rfl
      have d13 := hd ⟨13, .guard⟩ (by simp) rfl _ _ _ rfl rfl rfl
      refine ⟨fun _ => ?_, fun h => by rw [wantedBy_true rfl rfl rfl d13] at h; cases h⟩
      clear d13
      clear h0 hg hd
      exact gives_streq rfl d15 d17 (rep_bytes 16 2 (by omega)) (rep_bytes 16 2 (by omega)) (by rw [show (rep 16 2 == rep 16 2) = true by decide]; exact ⟨Chg.refl _ _, rfl⟩)
    · intro ρ w1 hw h0 hc hg hf hd
      have d13 := hd ⟨13, .data⟩ (by simp) rfl _ _ _ rfl rfl rfl
      have d18 := hd ⟨18, .data⟩ (by simp) rfl _ _ _ rfl rfl rfl
      refine ⟨fun _ => ?_, fun h => by cases h⟩
      clear h0 hg hd
      clear hf
      refine Gives.value (w' := w1) ?_ ⟨Chg.refl _ _, rfl⟩
      go_simp
  · intro vs w9 hw hr
    have h19 := hr 19 _ rfl
    clear hr
    dsimp only [putsL, restL]
    simp only [Act.put, List.setIfInBounds_toArray, List.set_cons_zero, List.set_cons_succ]
    simp only [Nat.zero_add, Nat.reduceAdd]
    rw [h19]
    go_wp2_with fail
    go_ret
    exact ⟨rfl, (HC5.out.then hw (fun _ h => h.elim)).below (Nat.le_refl _) (fun _ h => h)⟩
end Go.Proofs.Ytkndnlhlglgmfaa
