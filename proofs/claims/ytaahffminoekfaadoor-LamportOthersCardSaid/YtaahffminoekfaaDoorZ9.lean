/-
  The law 'LamportOthers', walked.
-/
import Derived.Test.YtaahffminoekfaaDoorZ8
namespace Go.Proofs.YtaahffminoekfaaDoor
open Go.RowKit
set_option maxRecDepth 100000 in
set_option maxHeartbeats 4000000 in
theorem lamportOthers_any (h m o : List Int) (w : World) (hl : h.length = 32) (hb : Bytes h) (hlm : m.length = 32) (hbm : Bytes m) (hlo : o.length = 32) (hbo : Bytes o) (hla : Laid w) :
    Calls Tryd.prog 14 #[hashV h, hashV m, hashV o] w (TruePost w) := by
  have hl2 := hla.lt
  have hin : inRange 0 := by unfold inRange; omega
  have ha : I64 0 := ⟨by omega, by omega⟩
  obtain ⟨cx, hcx, hux, _, _, hsz, hs32⟩ := hash_parts h hl
  obtain ⟨cm, hcm, hum, _, _, hszm, _⟩ := hash_parts m hlm
  obtain ⟨co, hco, huo, _, _, hszo, _⟩ := hash_parts o hlo
  obtain ⟨W0, hW0⟩ : ∃ W0, W0 = ((w.alloc (.cells cx 25)).alloc (.cells cm 25)).alloc (.cells co 25) := ⟨_, rfl⟩
  have HO0 : Hid (W0.heap[w.heap.size + 1 + 1]? = some (.cells co 25 (0, 0))) := Lib.hid (by
    rw [hW0]; have := heap_alloc_last ((w.alloc (.cells cx 25)).alloc (.cells cm 25)) (.cells co 25); rwa [World.size_alloc, World.size_alloc] at this)
  have HM0 : Hid (W0.heap[w.heap.size + 1]? = some (.cells cm 25 (0, 0))) := Lib.hid (by
    rw [hW0]; exact (Below.heap_alloc _ _ _ (by simp)).trans (by have := heap_alloc_last (w.alloc (.cells cx 25)) (.cells cm 25); rwa [World.size_alloc] at this))
  have HX0 : Hid (W0.heap[w.heap.size]? = some (.cells cx 25 (0, 0))) := Lib.hid (by rw [hW0]; exact (Below.heap_alloc _ _ _ (by simp; omega)).trans ((Below.heap_alloc _ _ _ (by simp)).trans (heap_alloc_last _ _)))
  have HU0 : Hid (Up w W0) := Lib.hid (by rw [hW0]; exact (((Chg.refl _ w).alloc _).alloc _).alloc _)
  have hsgn := lsign_any h 0 m W0 hl hb ha hlm hbm (hla.up HU0.out)
  have hbm1 := fun (k : Nat) hk W => refBit_any m cm k hk hbm (fun j hj => hash_at m cm hum hlm j hj) W
  have hbo1 := fun (k : Nat) hk W => refBit_any o co k hk hbo (fun j hj => hash_at o co huo hlo j hj) W
  rw [hcx, hcm] at hsgn
  rw [hcx, hcm, hco]
  have HBM := Lib.hid hbm1
  have HBO := Lib.hid hbo1
  have HSGN := Lib.hid hsgn
  have HWL := Lib.hid hW0
  have HSX := Lib.hid hsz
  have HSM := Lib.hid hszm
  have HSO := Lib.hid hszo
  have HCX := Lib.hid hcx
  have HB := Lib.hid hb
  have HL := Lib.hid hl
  have HA := Lib.hid ha
  have HLA := Lib.hid hla
  have HIN := Lib.hid hin
  clear hcx hux hl hb hla hsz hs32 hW0 ha hcm hum hszm hlm hbm hco huo hszo hlo hbo hsgn hin hbm1 hbo1
  go_enter Tryd.func14, Tryd.ntmps14
  go_wp2_with (first
    | refine wpList_load_row rfl 25 (.tmp 3) rfl w.heap.size (by rfl) 25 cx (0, 0) _ (by rw [← HWL.out]; exact HX0.out) Tryd.underlying25 rfl HSX.out ?_
    | refine wpList_load_row rfl 25 (.tmp 4) rfl (w.heap.size + 1) (by rfl) 25 cm (0, 0) _ (by rw [← HWL.out]; exact HM0.out) Tryd.underlying25 rfl HSM.out ?_)
  rw [← HWL.out]
  refine HSGN.out.mono ?_
  rintro e V3 ⟨hb3, hcase⟩
  obtain ⟨_, Bs, cg, rfl, hown⟩ := hcase.resolve_right (fun hc => hc.1 HIN.out)
  have hu3 := up_below hb3
  have hslg : SlH V3 (.slice Bs 512 cg) (sgnL h 0 m 256) := by
    have h2 := own_slh (w := V3) (base := W0.heap.size) (c := cg) (B := Bs) (hs := sgnL h 0 m 256) (by rw [sgnL_len]; exact hown) (by rw [sgnL_len]; exact sgnL_each h 0 m 256)
    rwa [sgnL_len] at h2
  obtain ⟨g, hBs, hcg1, hcg2⟩ : ∃ g, Bs = some ⟨g, 0, none⟩ ∧ 512 ≤ cg ∧ cg ≤ maxLen := by
    rcases hown.2 with ⟨_, h0⟩ | ⟨g, cap, cur, he, _, _, h1, h2, _⟩
    · omega
    · injection he with h3 h4 h5
      subst h5
      exact ⟨g, h3, h1, h2⟩
  subst hBs
  have hcg3 : cg ≤ 9223372036854775807 := by unfold maxLen at hcg2; omega
  have HSG := Lib.hid hslg
  have HX3 := Lib.hid (hu3.heap HX0.out (fun h => h))
  have HM3 := Lib.hid (hu3.heap HM0.out (fun h => h))
  have HO3 := Lib.hid (hu3.heap HO0.out (fun h => h))
  have HU3 := Lib.hid (HU0.out.trans hu3)
  have HLA3 := Lib.hid (HLA.out.up (HU0.out.trans hu3))
  clear hb3 hcase hown hslg hu3 HX0 HM0 HO0 HU0 HSGN hcg2 HLA HWL
  go_wp2_with fail
  go_loopw [25] (fun i wr => ∃ (k : Nat), k ≤ 256 ∧ i = .int .i64 k ∧ Up V3 wr) (fun i _ => 256 - (intOf i).toNat)
  case atStart => exact ⟨0, by omega, rfl, Chg.refl _ _⟩
  case round =>
    rename World => wo
    obtain ⟨k, hk, rfl, hu⟩ := hrel
    by_cases hk2 : (k : Int) < 256
    · have hbd := bitI_bd m k
      have hcd := bitI_bd o k
      obtain ⟨bn, hbn⟩ : ∃ bn : Nat, bitI m k = bn := ⟨(bitI m k).toNat, by omega⟩
      obtain ⟨cn, hcn⟩ : ∃ cn : Nat, bitI o k = cn := ⟨(bitI o k).toNat, by omega⟩
      have hbn2 : bn ≤ 1 := by omega
      have hcn2 : cn ≤ 1 := by omega
      obtain ⟨a0, a1⟩ := pairs_at (fun k => secI h 0 (67 + 2 * (k : Int) + bitI m k)) (fun k => endL h 0 k (1 - bitI m k)) 256 k (by omega)
      change (sgnL h 0 m 256).getD (2 * k) [] = _ at a0
      change (sgnL h 0 m 256).getD (2 * k + 1) [] = _ at a1
      have hl0 := secI_len h 0 (67 + 2 * (k : Int) + (bn : Int))
      have hb0 := secI_bytes h 0 (67 + 2 * (k : Int) + (bn : Int))
      have hee0 := endL_eq h 0 k (bn : Int)
      have he0 := endL_ok h 0 k (bn : Int)
      rw [hbn] at a0 a1
      have r0 := (HSG.out.form (by rw [sgnL_len]; omega))
      obtain ⟨g', o', cap', he', _, _, _, hr'⟩ := r0
      injection he' with e1 e2 e3
      injection e1 with e1
      injection e1 with e1 e4
      subst e1 e4
      have rr0 := (hr' (2 * k) (by rw [sgnL_len]; omega)).2.2
      have rr1 := (hr' (2 * k + 1) (by rw [sgnL_len]; omega)).2.2
      rw [a0, Nat.zero_add] at rr0
      rw [a1, Nat.zero_add] at rr1
      have hbit := HBM.out k (by omega)
      have hbit2 := HBO.out k (by omega)
      rw [hbn] at hbit
      rw [hcn] at hbit2
      obtain ⟨s0, hs0⟩ : ∃ x, secI h 0 (67 + 2 * (k : Int) + (bn : Int)) = x := ⟨_, rfl⟩
      obtain ⟨e0, he0'⟩ : ∃ x, endL h 0 k (bn : Int) = x := ⟨_, rfl⟩
      rw [hs0] at hl0 hb0 hee0 rr0
      rw [he0'] at hee0 he0
      have HS0E := Lib.hid hs0
      have HE0E := Lib.hid hee0
      have HLs0 := Lib.hid hl0
      have HBs0 := Lib.hid hb0
      have HLe0 := Lib.hid he0.1
      have hud : Up V3 wo.drew := hu.trans (Chg.refl _ _).drew
      have HRR0 := Lib.hid (Rng.up rr0 hu)
      have HRR1 := Lib.hid (Rng.up rr1 hu)
      have HBM1 := Lib.hid hbit
      have HBO1 := Lib.hid hbit2
      have HMd := Lib.hid (hud.heap HM3.out (fun h => h))
      have HOd := Lib.hid (hud.heap HO3.out (fun h => h))
      have HXo := Lib.hid (hu.heap HX3.out (fun h => h))
      have HU := Lib.hid hu
      clear hbd hcd hbn hcn a0 a1 hl0 hb0 hee0 he0 e2 e3 hr' rr0 rr1 hbit hbit2 hs0 he0' hud hu
      go_wp2_with fail
      refine region_mono Up [fun v _ => v = .agg cm,
          fun v _ => v = .int .i64 (k : Int),
          fun v _ => v = .int .i64 ((bn : Int)),
          fun v _ => v = .agg co,
          fun v _ => v = .int .i64 (k : Int),
          fun v _ => v = .int .i64 ((cn : Int)),
          fun v _ => v = .int .i64 ((bn : Int)),
          fun v _ => v = .int .i64 ((cn : Int))] (by kernel_rfl) (by kernel_rfl) (Chg.refl _) (fun _ _ _ => Chg.trans) (by simp) ?_ ?_ ?_
      · simp only [List.forall_mem_cons]
        exact ⟨fun _ _ _ _ _ h => h, fun _ _ _ _ _ h => h, fun _ _ _ _ _ h => h, fun _ _ _ _ _ h => h, fun _ _ _ _ _ h => h, fun _ _ _ _ _ h => h, fun _ _ _ _ _ h => h, fun _ _ _ _ _ h => h, by simp⟩
      · refine ⟨?_, ?_, ?_, ?_, ?_, ?_, ?_, ?_, trivial⟩
        · intro ρ w1 hw h0 hc hg hf hd
          have s4 : ρ (.tmp 4) = .pointer (some ⟨w.heap.size + 1, 0, none⟩) := h0 4 (by kernel_rfl)
          refine ⟨fun _ => ?_, fun h => by cases h⟩
          clear h0 hg hd
          clear hc hf
          exact gives_load_row rfl s4 (hw.heap HMd.out (fun h => h)) Tryd.underlying25 rfl HSM.out ⟨Chg.refl _ _, rfl⟩
        · intro ρ w1 hw h0 hc hg hf hd
          have s9 : ρ (.tmp 9) = .int .i64 (k : Int) := h0 9 (by kernel_rfl)
          refine ⟨fun _ => ?_, fun h => by cases h⟩
          clear h0 hg hd
          exact gives_move rfl ⟨Chg.refl _ _, s9⟩
        · intro ρ w1 hw h0 hc hg hf hd
          have d0 := hd ⟨0, .data⟩ (by simp) rfl _ _ _ rfl rfl rfl
          have d1 := hd ⟨1, .data⟩ (by simp) rfl _ _ _ rfl rfl rfl
          refine ⟨fun _ => ?_, fun h => by cases h⟩
          clear h0 hg hd
          refine gives_call rfl hf Tryd.func51 rfl (by kernel_rfl) (args := #[.agg cm, .int .i64 k]) (by simp [hc, d0, d1]) ((HBM1.out w1).mono ?_)
          rintro e w2 ⟨rfl, hb⟩
          exact ⟨_, rfl, up_below hb, rfl⟩
        · intro ρ w1 hw h0 hc hg hf hd
          have s5 : ρ (.tmp 5) = .pointer (some ⟨w.heap.size + 1 + 1, 0, none⟩) := h0 5 (by kernel_rfl)
          refine ⟨fun _ => ?_, fun h => by cases h⟩
          clear h0 hg hd
          clear hc hf
          exact gives_load_row rfl s5 (hw.heap HOd.out (fun h => h)) Tryd.underlying25 rfl HSO.out ⟨Chg.refl _ _, rfl⟩
        · intro ρ w1 hw h0 hc hg hf hd
          have s9 : ρ (.tmp 9) = .int .i64 (k : Int) := h0 9 (by kernel_rfl)
          refine ⟨fun _ => ?_, fun h => by cases h⟩
          clear h0 hg hd
          exact gives_move rfl ⟨Chg.refl _ _, s9⟩
        · intro ρ w1 hw h0 hc hg hf hd
          have d3 := hd ⟨3, .data⟩ (by simp) rfl _ _ _ rfl rfl rfl
          have d4 := hd ⟨4, .data⟩ (by simp) rfl _ _ _ rfl rfl rfl
          refine ⟨fun _ => ?_, fun h => by cases h⟩
          clear h0 hg hd
          refine gives_call rfl hf Tryd.func51 rfl (by kernel_rfl) (args := #[.agg co, .int .i64 k]) (by simp [hc, d3, d4]) ((HBO1.out w1).mono ?_)
          rintro e w2 ⟨rfl, hb⟩
          exact ⟨_, rfl, up_below hb, rfl⟩
        · intro ρ w1 hw h0 hc hg hf hd
          have d2 := hd ⟨2, .data⟩ (by simp) rfl _ _ _ rfl rfl rfl
          refine ⟨fun _ => ?_, fun h => by cases h⟩
          clear h0 hg hd
          exact gives_assign rfl ⟨Chg.refl _ _, d2⟩
        · intro ρ w1 hw h0 hc hg hf hd
          have d5 := hd ⟨5, .data⟩ (by simp) rfl _ _ _ rfl rfl rfl
          refine ⟨fun _ => ?_, fun h => by cases h⟩
          clear h0 hg hd
          exact gives_assign rfl ⟨Chg.refl _ _, d5⟩
      · intro vs w7 hw hr
        have h6 := hr 6 _ rfl
        have h7 := hr 7 _ rfl
        clear hr
        dsimp only [putsL, restL]
        simp only [Act.put, List.setIfInBounds_toArray, List.set_cons_zero, List.set_cons_succ]
        rw [h6, h7]
        have hu7 : Up wo w7 := (Chg.refl (fun _ => False) wo).drew.trans hw
        have hud : Up wo w7.drew := hu7.trans (Chg.refl _ _).drew
        have HRS0 := Lib.hid (Rng.up HRR0.out hud)
        have HRE1' := Lib.hid (Rng.up HRR1.out hud)
        have HXR := Lib.hid (hud.heap HXo.out (fun h => h))
        have HLAo := Lib.hid (HLA3.out.up (HU.out.trans hud))
        have HU7 := Lib.hid (HU.out.trans hud)
        clear hw h6 h7 hu7 hud HRR0 HRR1 HMd HOd HXo HU HBM1 HBO1
        by_cases hbc : bn = cn
        · go_wp2_with fail
          refine region_mono Up [fun v _ => v = .slice (some ⟨g, 0, none⟩) 512 cg,
              fun v _ => v = .int .i64 (k : Int),
              fun v _ => v = .int .i64 (2 * (k : Int)),
              fun v _ => v = .pointer (some ⟨g, 32 * (2 * k), none⟩),
              fun v _ => v = hashV s0,
              fun v _ => v = .int .i64 (k : Int),
              fun v _ => v = .int .i64 (67 + (k : Int)),
              fun v _ => v = .int .i64 (bn : Int),
              fun v _ => v = hashV e0,
              fun v _ => v = hashV h,
              fun v _ => v = .int .i64 (k : Int),
              fun v _ => v = .int .i64 (2 * (k : Int)),
              fun v _ => v = .int .i64 (67 + 2 * (k : Int)),
              fun v _ => v = .int .i64 (bn : Int),
              fun v _ => v = .int .i64 (67 + 2 * (k : Int) + (bn : Int)),
              fun v _ => v = hashV s0,
              fun v _ => v = .int .i64 (k : Int),
              fun v _ => v = .int .i64 (67 + (k : Int)),
              fun v _ => v = .int .i64 (bn : Int),
              fun v _ => v = hashV e0,
              fun v _ => v = .bool false,
              fun v _ => v = .bool false,
              fun v _ => v = .int .i64 (bn : Int),
              fun v _ => v = .int .i64 (cn : Int),
              fun v _ => v = .bool false,
              fun v _ => v = .bool false,
              fun _ _ => True,
              fun _ _ => True,
              fun _ _ => True,
              fun _ _ => True,
              fun _ _ => True,
              fun _ _ => True,
              fun _ _ => True,
              fun _ _ => True,
              fun _ _ => True,
              fun _ _ => True,
              fun _ _ => True,
              fun _ _ => True,
              fun _ _ => True,
              fun _ _ => True,
              fun _ _ => True,
              fun _ _ => True,
              fun _ _ => True,
              fun _ _ => True,
              fun v _ => v = .bool false,
              fun v _ => v = .bool false] (by kernel_rfl) (by kernel_rfl) (Chg.refl _) (fun _ _ _ => Chg.trans) (by simp) ?_ ?_ ?_
          · simp only [List.forall_mem_cons]
            exact ⟨fun _ _ _ _ _ h => h, fun _ _ _ _ _ h => h, fun _ _ _ _ _ h => h, fun _ _ _ _ _ h => h, fun _ _ _ _ _ h => h, fun _ _ _ _ _ h => h, fun _ _ _ _ _ h => h, fun _ _ _ _ _ h => h, fun _ _ _ _ _ h => h, fun _ _ _ _ _ h => h, fun _ _ _ _ _ h => h, fun _ _ _ _ _ h => h, fun _ _ _ _ _ h => h, fun _ _ _ _ _ h => h, fun _ _ _ _ _ h => h, fun _ _ _ _ _ h => h, fun _ _ _ _ _ h => h, fun _ _ _ _ _ h => h, fun _ _ _ _ _ h => h, fun _ _ _ _ _ h => h, fun _ _ _ _ _ h => h, fun _ _ _ _ _ h => h, fun _ _ _ _ _ h => h, fun _ _ _ _ _ h => h, fun _ _ _ _ _ h => h, fun _ _ _ _ _ h => h, fun _ _ _ _ _ h => h, fun _ _ _ _ _ h => h, fun _ _ _ _ _ h => h, fun _ _ _ _ _ h => h, fun _ _ _ _ _ h => h, fun _ _ _ _ _ h => h, fun _ _ _ _ _ h => h, fun _ _ _ _ _ h => h, fun _ _ _ _ _ h => h, fun _ _ _ _ _ h => h, fun _ _ _ _ _ h => h, fun _ _ _ _ _ h => h, fun _ _ _ _ _ h => h, fun _ _ _ _ _ h => h, fun _ _ _ _ _ h => h, fun _ _ _ _ _ h => h, fun _ _ _ _ _ h => h, fun _ _ _ _ _ h => h, fun _ _ _ _ _ h => h, fun _ _ _ _ _ h => h, by simp⟩
          · refine ⟨?_, ?_, ?_, ?_, ?_, ?_, ?_, ?_, ?_, ?_, ?_, ?_, ?_, ?_, ?_, ?_, ?_, ?_, ?_, ?_, ?_, ?_, ?_, ?_, ?_, ?_, ?_, ?_, ?_, ?_, ?_, ?_, ?_, ?_, ?_, ?_, ?_, ?_, ?_, ?_, ?_, ?_, ?_, ?_, ?_, ?_, trivial⟩
            · intro ρ w1 hw h0 hc hg hf hd
              have s7 : ρ (.tmp 7) = .slice (some ⟨g, 0, none⟩) 512 cg := h0 7 (by kernel_rfl)
              refine ⟨fun _ => ?_, fun h => by cases h⟩
              clear h0 hg hd
              exact gives_move rfl ⟨Chg.refl _ _, s7⟩
            · intro ρ w1 hw h0 hc hg hf hd
              have s9 : ρ (.tmp 9) = .int .i64 (k : Int) := h0 9 (by kernel_rfl)
              refine ⟨fun _ => ?_, fun h => by cases h⟩
              clear h0 hg hd
              exact gives_move rfl ⟨Chg.refl _ _, s9⟩
            · intro ρ w1 hw h0 hc hg hf hd
              have d1 := hd ⟨1, .data⟩ (by simp) rfl _ _ _ rfl rfl rfl
              refine ⟨fun _ => ?_, fun h => by cases h⟩
              clear h0 hg hd
              clear hf
              refine Gives.value (w' := w1) ?_ ⟨Chg.refl _ _, rfl⟩
              go_simp
              exact wrap_small _ (by omega) (by omega)
            · intro ρ w1 hw h0 hc hg hf hd
              have d0 := hd ⟨0, .data⟩ (by simp) rfl _ _ _ rfl rfl rfl
              have d2 := hd ⟨2, .data⟩ (by simp) rfl _ _ _ rfl rfl rfl
              refine ⟨fun _ => ?_, fun h => by cases h⟩
              clear h0 hg hd
              clear hf
              refine Gives.value (w' := w1) ?_ ⟨Chg.refl _ _, rfl⟩
              go_simp
              rw [if_pos (by omega), show (2 * (k : Int)).toNat * 32 = 32 * (2 * k) by omega]
            · intro ρ w1 hw h0 hc hg hf hd
              have d3 := hd ⟨3, .data⟩ (by simp) rfl _ _ _ rfl rfl rfl
              refine ⟨fun _ => ?_, fun h => by cases h⟩
              clear h0 hg hd
              exact gives_hash rfl d3 HLs0.out (Rng.up HRS0.out hw) ⟨Chg.refl _ _, rfl⟩
            · intro ρ w1 hw h0 hc hg hf hd
              have s9 : ρ (.tmp 9) = .int .i64 (k : Int) := h0 9 (by kernel_rfl)
              refine ⟨fun _ => ?_, fun h => by cases h⟩
              clear h0 hg hd
              exact gives_move rfl ⟨Chg.refl _ _, s9⟩
            · intro ρ w1 hw h0 hc hg hf hd
              have d5 := hd ⟨5, .data⟩ (by simp) rfl _ _ _ rfl rfl rfl
              refine ⟨fun _ => ?_, fun h => by cases h⟩
              clear h0 hg hd
              clear hf
              refine Gives.value (w' := w1) ?_ ⟨Chg.refl _ _, rfl⟩
              go_simp
              exact wrap_small _ (by omega) (by omega)
            · intro ρ w1 hw h0 hc hg hf hd
              have s10 : ρ (.tmp 10) = .int .i64 (bn : Int) := h0 10 (by kernel_rfl)
              refine ⟨fun _ => ?_, fun h => by cases h⟩
              clear h0 hg hd
              exact gives_move rfl ⟨Chg.refl _ _, s10⟩
            · intro ρ w1 hw h0 hc hg hf hd
              have d4 := hd ⟨4, .data⟩ (by simp) rfl _ _ _ rfl rfl rfl
              have d6 := hd ⟨6, .data⟩ (by simp) rfl _ _ _ rfl rfl rfl
              have d7 := hd ⟨7, .data⟩ (by simp) rfl _ _ _ rfl rfl rfl
              refine ⟨fun _ => ?_, fun h => by cases h⟩
              clear h0 hg hd
              have hcl := chain_any s0 (67 + (k : Int)) (bn : Int) w1 HLs0.out HBs0.out (by omega) (by omega) (by omega) (by omega) (HLAo.out.up hw)
              unfold SumPost at hcl
              rw [stepI_eq, HE0E.out] at hcl
              refine gives_call rfl hf Tryd.func42 rfl (by kernel_rfl) (args := #[hashV s0, .int .i64 (67 + (k : Int)), .int .i64 (bn : Int)]) (by simp [hc, d4, d6, d7]) (hcl.mono ?_)
              rintro e w2 ⟨rfl, hb⟩
              exact ⟨_, rfl, up_below hb, rfl⟩
            · intro ρ w1 hw h0 hc hg hf hd
              have s3 : ρ (.tmp 3) = .pointer (some ⟨w.heap.size, 0, none⟩) := h0 3 (by kernel_rfl)
              refine ⟨fun _ => ?_, fun h => by cases h⟩
              clear h0 hg hd
              clear hc hf
              rw [HCX.out]
              exact gives_load_row rfl s3 (hw.heap HXR.out (fun h => h)) Tryd.underlying25 rfl HSX.out ⟨Chg.refl _ _, rfl⟩
            · intro ρ w1 hw h0 hc hg hf hd
              have s9 : ρ (.tmp 9) = .int .i64 (k : Int) := h0 9 (by kernel_rfl)
              refine ⟨fun _ => ?_, fun h => by cases h⟩
              clear h0 hg hd
              exact gives_move rfl ⟨Chg.refl _ _, s9⟩
            · intro ρ w1 hw h0 hc hg hf hd
              have d10 := hd ⟨10, .data⟩ (by simp) rfl _ _ _ rfl rfl rfl
              refine ⟨fun _ => ?_, fun h => by cases h⟩
              clear h0 hg hd
              clear hf
              refine Gives.value (w' := w1) ?_ ⟨Chg.refl _ _, rfl⟩
              go_simp
              exact wrap_small _ (by omega) (by omega)
            · intro ρ w1 hw h0 hc hg hf hd
              have d11 := hd ⟨11, .data⟩ (by simp) rfl _ _ _ rfl rfl rfl
              refine ⟨fun _ => ?_, fun h => by cases h⟩
              clear h0 hg hd
              clear hf
              refine Gives.value (w' := w1) ?_ ⟨Chg.refl _ _, rfl⟩
              go_simp
              exact wrap_small _ (by omega) (by omega)
            · intro ρ w1 hw h0 hc hg hf hd
              have s10 : ρ (.tmp 10) = .int .i64 (bn : Int) := h0 10 (by kernel_rfl)
              refine ⟨fun _ => ?_, fun h => by cases h⟩
              clear h0 hg hd
              exact gives_move rfl ⟨Chg.refl _ _, s10⟩
            · intro ρ w1 hw h0 hc hg hf hd
              have d12 := hd ⟨12, .data⟩ (by simp) rfl _ _ _ rfl rfl rfl
              have d13 := hd ⟨13, .data⟩ (by simp) rfl _ _ _ rfl rfl rfl
              refine ⟨fun _ => ?_, fun h => by cases h⟩
              clear h0 hg hd
              clear hf
              refine Gives.value (w' := w1) ?_ ⟨Chg.refl _ _, rfl⟩
              go_simp
              exact wrap_small _ (by omega) (by omega)
            · intro ρ w1 hw h0 hc hg hf hd
              have d9 := hd ⟨9, .data⟩ (by simp) rfl _ _ _ rfl rfl rfl
              have d14 := hd ⟨14, .data⟩ (by simp) rfl _ _ _ rfl rfl rfl
              refine ⟨fun _ => ?_, fun h => by cases h⟩
              clear h0 hg hd
              have hcl := secret2_any h 0 (67 + 2 * (k : Int) + (bn : Int)) w1 HL.out HB.out HA.out ⟨by omega, by omega⟩ (HLAo.out.up hw)
              unfold HashPost at hcl
              rw [HS0E.out] at hcl
              refine gives_call rfl hf Tryd.func43 rfl (by kernel_rfl) (args := #[hashV h, .int .i64 0, .int .i64 (67 + 2 * (k : Int) + (bn : Int))]) (by simp [hc, d9, d14]) (hcl.mono ?_)
              rintro e w2 ⟨rfl, hb⟩
              exact ⟨_, rfl, up_below hb, rfl⟩
            · intro ρ w1 hw h0 hc hg hf hd
              have s9 : ρ (.tmp 9) = .int .i64 (k : Int) := h0 9 (by kernel_rfl)
              refine ⟨fun _ => ?_, fun h => by cases h⟩
              clear h0 hg hd
              exact gives_move rfl ⟨Chg.refl _ _, s9⟩
            · intro ρ w1 hw h0 hc hg hf hd
              have d16 := hd ⟨16, .data⟩ (by simp) rfl _ _ _ rfl rfl rfl
              refine ⟨fun _ => ?_, fun h => by cases h⟩
              clear h0 hg hd
              clear hf
              refine Gives.value (w' := w1) ?_ ⟨Chg.refl _ _, rfl⟩
              go_simp
              exact wrap_small _ (by omega) (by omega)
            · intro ρ w1 hw h0 hc hg hf hd
              have s10 : ρ (.tmp 10) = .int .i64 (bn : Int) := h0 10 (by kernel_rfl)
              refine ⟨fun _ => ?_, fun h => by cases h⟩
              clear h0 hg hd
              exact gives_move rfl ⟨Chg.refl _ _, s10⟩
            · intro ρ w1 hw h0 hc hg hf hd
              have d15 := hd ⟨15, .data⟩ (by simp) rfl _ _ _ rfl rfl rfl
              have d17 := hd ⟨17, .data⟩ (by simp) rfl _ _ _ rfl rfl rfl
              have d18 := hd ⟨18, .data⟩ (by simp) rfl _ _ _ rfl rfl rfl
              refine ⟨fun _ => ?_, fun h => by cases h⟩
              clear h0 hg hd
              have hcl := chain_any s0 (67 + (k : Int)) (bn : Int) w1 HLs0.out HBs0.out (by omega) (by omega) (by omega) (by omega) (HLAo.out.up hw)
              unfold SumPost at hcl
              rw [stepI_eq, HE0E.out] at hcl
              refine gives_call rfl hf Tryd.func42 rfl (by kernel_rfl) (args := #[hashV s0, .int .i64 (67 + (k : Int)), .int .i64 (bn : Int)]) (by simp [hc, d15, d17, d18]) (hcl.mono ?_)
              rintro e w2 ⟨rfl, hb⟩
              exact ⟨_, rfl, up_below hb, rfl⟩
            · intro ρ w1 hw h0 hc hg hf hd
              have d8 := hd ⟨8, .data⟩ (by simp) rfl _ _ _ rfl rfl rfl
              have d19 := hd ⟨19, .data⟩ (by simp) rfl _ _ _ rfl rfl rfl
              refine ⟨fun _ => ?_, fun h => by cases h⟩
              clear h0 hg hd
              exact gives_same_ne rfl d8 d19 HLe0.out ⟨Chg.refl _ _, rfl⟩
            · intro ρ w1 hw h0 hc hg hf hd
              have d20 := hd ⟨20, .data⟩ (by simp) rfl _ _ _ rfl rfl rfl
              refine ⟨fun _ => ?_, fun h => by cases h⟩
              clear h0 hg hd
              exact gives_move rfl ⟨Chg.refl _ _, d20⟩
            · intro ρ w1 hw h0 hc hg hf hd
              have d21 := hd ⟨21, .guard⟩ (by simp) rfl _ _ _ rfl rfl rfl
              have s10 : ρ (.tmp 10) = .int .i64 (bn : Int) := h0 10 (by kernel_rfl)
              refine ⟨fun _ => ?_, fun h => by rw [wantedBy_true rfl rfl rfl d21] at h; cases h⟩
              clear d21
              clear h0 hg hd
              exact gives_move rfl ⟨Chg.refl _ _, s10⟩
            · intro ρ w1 hw h0 hc hg hf hd
              have d21 := hd ⟨21, .guard⟩ (by simp) rfl _ _ _ rfl rfl rfl
              have s11 : ρ (.tmp 11) = .int .i64 (cn : Int) := h0 11 (by kernel_rfl)
              refine ⟨fun _ => ?_, fun h => by rw [wantedBy_true rfl rfl rfl d21] at h; cases h⟩
              clear d21
              clear h0 hg hd
              exact gives_move rfl ⟨Chg.refl _ _, s11⟩
            · intro ρ w1 hw h0 hc hg hf hd
              have d22 := hd ⟨22, .data⟩ (by simp) rfl _ _ _ rfl rfl rfl
              have d23 := hd ⟨23, .data⟩ (by simp) rfl _ _ _ rfl rfl rfl
              have d21 := hd ⟨21, .guard⟩ (by simp) rfl _ _ _ rfl rfl rfl
              refine ⟨fun _ => ?_, fun h => by rw [wantedBy_true rfl rfl rfl d21] at h; cases h⟩
              clear d21
              clear h0 hg hd
              clear hf
              refine Gives.value (w' := w1) ?_ ⟨Chg.refl _ _, rfl⟩
              go_simp
              all_goals omega
            · intro ρ w1 hw h0 hc hg hf hd
              have d24 := hd ⟨24, .data⟩ (by simp) rfl _ _ _ rfl rfl rfl
              have d21 := hd ⟨21, .chain⟩ (by simp) rfl _ _ _ rfl rfl rfl
              refine ⟨fun _ => ?_, fun h => by rw [wantedBy_true rfl rfl rfl d21] at h; cases h⟩
              clear d21
              clear h0 hg hd
              exact gives_move rfl ⟨Chg.refl _ _, d24⟩
            · intro ρ w1 hw h0 hc hg hf hd
              have d25 := hd ⟨25, .guard⟩ (by simp) rfl _ _ _ rfl rfl rfl
              exact ⟨fun hx => (by rw [wantedBy_false rfl rfl rfl d25] at hx; cases hx), fun _ => trivial⟩
            · intro ρ w1 hw h0 hc hg hf hd
              have d25 := hd ⟨25, .guard⟩ (by simp) rfl _ _ _ rfl rfl rfl
              exact ⟨fun hx => (by rw [wantedBy_false rfl rfl rfl d25] at hx; cases hx), fun _ => trivial⟩
            · intro ρ w1 hw h0 hc hg hf hd
              have d25 := hd ⟨25, .guard⟩ (by simp) rfl _ _ _ rfl rfl rfl
              exact ⟨fun hx => (by rw [wantedBy_false rfl rfl rfl d25] at hx; cases hx), fun _ => trivial⟩
            · intro ρ w1 hw h0 hc hg hf hd
              have d25 := hd ⟨25, .guard⟩ (by simp) rfl _ _ _ rfl rfl rfl
              exact ⟨fun hx => (by rw [wantedBy_false rfl rfl rfl d25] at hx; cases hx), fun _ => trivial⟩
            · intro ρ w1 hw h0 hc hg hf hd
              have d25 := hd ⟨25, .guard⟩ (by simp) rfl _ _ _ rfl rfl rfl
              exact ⟨fun hx => (by rw [wantedBy_false rfl rfl rfl d25] at hx; cases hx), fun _ => trivial⟩
            · intro ρ w1 hw h0 hc hg hf hd
              have d25 := hd ⟨25, .guard⟩ (by simp) rfl _ _ _ rfl rfl rfl
              exact ⟨fun hx => (by rw [wantedBy_false rfl rfl rfl d25] at hx; cases hx), fun _ => trivial⟩
            · intro ρ w1 hw h0 hc hg hf hd
              have d25 := hd ⟨25, .guard⟩ (by simp) rfl _ _ _ rfl rfl rfl
              exact ⟨fun hx => (by rw [wantedBy_false rfl rfl rfl d25] at hx; cases hx), fun _ => trivial⟩
            · intro ρ w1 hw h0 hc hg hf hd
              have d25 := hd ⟨25, .guard⟩ (by simp) rfl _ _ _ rfl rfl rfl
              exact ⟨fun hx => (by rw [wantedBy_false rfl rfl rfl d25] at hx; cases hx), fun _ => trivial⟩
            · intro ρ w1 hw h0 hc hg hf hd
              have d25 := hd ⟨25, .guard⟩ (by simp) rfl _ _ _ rfl rfl rfl
              exact ⟨fun hx => (by rw [wantedBy_false rfl rfl rfl d25] at hx; cases hx), fun _ => trivial⟩
            · intro ρ w1 hw h0 hc hg hf hd
              have d25 := hd ⟨25, .guard⟩ (by simp) rfl _ _ _ rfl rfl rfl
              exact ⟨fun hx => (by rw [wantedBy_false rfl rfl rfl d25] at hx; cases hx), fun _ => trivial⟩
            · intro ρ w1 hw h0 hc hg hf hd
              have d25 := hd ⟨25, .guard⟩ (by simp) rfl _ _ _ rfl rfl rfl
              exact ⟨fun hx => (by rw [wantedBy_false rfl rfl rfl d25] at hx; cases hx), fun _ => trivial⟩
            · intro ρ w1 hw h0 hc hg hf hd
              have d25 := hd ⟨25, .guard⟩ (by simp) rfl _ _ _ rfl rfl rfl
              exact ⟨fun hx => (by rw [wantedBy_false rfl rfl rfl d25] at hx; cases hx), fun _ => trivial⟩
            · intro ρ w1 hw h0 hc hg hf hd
              have d25 := hd ⟨25, .chain⟩ (by simp) rfl _ _ _ rfl rfl rfl
              exact ⟨fun hx => (by rw [wantedBy_false rfl rfl rfl d25] at hx; cases hx), fun _ => trivial⟩
            · intro ρ w1 hw h0 hc hg hf hd
              have d25 := hd ⟨25, .guard⟩ (by simp) rfl _ _ _ rfl rfl rfl
              exact ⟨fun hx => (by rw [wantedBy_false rfl rfl rfl d25] at hx; cases hx), fun _ => trivial⟩
            · intro ρ w1 hw h0 hc hg hf hd
              have d25 := hd ⟨25, .guard⟩ (by simp) rfl _ _ _ rfl rfl rfl
              exact ⟨fun hx => (by rw [wantedBy_false rfl rfl rfl d25] at hx; cases hx), fun _ => trivial⟩
            · intro ρ w1 hw h0 hc hg hf hd
              have d25 := hd ⟨25, .guard⟩ (by simp) rfl _ _ _ rfl rfl rfl
              exact ⟨fun hx => (by rw [wantedBy_false rfl rfl rfl d25] at hx; cases hx), fun _ => trivial⟩
            · intro ρ w1 hw h0 hc hg hf hd
              have d25 := hd ⟨25, .guard⟩ (by simp) rfl _ _ _ rfl rfl rfl
              exact ⟨fun hx => (by rw [wantedBy_false rfl rfl rfl d25] at hx; cases hx), fun _ => trivial⟩
            · intro ρ w1 hw h0 hc hg hf hd
              have d25 := hd ⟨25, .guard⟩ (by simp) rfl _ _ _ rfl rfl rfl
              exact ⟨fun hx => (by rw [wantedBy_false rfl rfl rfl d25] at hx; cases hx), fun _ => trivial⟩
            · intro ρ w1 hw h0 hc hg hf hd
              have d25 := hd ⟨25, .data⟩ (by simp) rfl _ _ _ rfl rfl rfl
              have d43 := hd ⟨43, .data⟩ (by simp) rfl _ _ _ rfl rfl rfl
              have d21 := hd ⟨21, .guard⟩ (by simp) rfl _ _ _ rfl rfl rfl
              refine ⟨fun _ => ?_, fun h => by rw [wantedBy_true rfl rfl rfl d21] at h; cases h⟩
              clear d21
              clear h0 hg hd
              clear hf
              refine Gives.value (w' := w1) ?_ ⟨Chg.refl _ _, rfl⟩
              go_simp
            · intro ρ w1 hw h0 hc hg hf hd
              have d21 := hd ⟨21, .data⟩ (by simp) rfl _ _ _ rfl rfl rfl
              have d44 := hd ⟨44, .data⟩ (by simp) rfl _ _ _ rfl rfl rfl
              refine ⟨fun _ => ?_, fun h => by cases h⟩
              clear h0 hg hd
              clear hf
              refine Gives.value (w' := w1) ?_ ⟨Chg.refl _ _, rfl⟩
              go_simp
          · intro vs w8 hw hr
            have h45 := hr 45 _ rfl
            clear hr
            dsimp only [putsL, restL]
            simp only [Act.put, List.setIfInBounds_toArray, List.set_cons_zero, List.set_cons_succ]
            rw [h45]
            have HU8 := Lib.hid (HU7.out.trans hw)
            clear hw h45
            go_wp2_with fail
            go_roundw
            case rel => exact ⟨k + 1, by omega, by go_num, HU8.out⟩
            case measure => simp [intOf]; omega
        · have hcb : (1 : Int) - (bn : Int) = (cn : Int) := by omega
          have HRE0 : Hid (w7.drew.rangeAt g (32 * (2 * k + 1)) (u8s (endL h 0 k (cn : Int)))) := Lib.hid (by rw [← hcb]; exact HRE1'.out)
          have hl1 := secI_len h 0 (67 + 2 * (k : Int) + (cn : Int))
          have hb1 := secI_bytes h 0 (67 + 2 * (k : Int) + (cn : Int))
          have hee1 := endL_eq h 0 k (cn : Int)
          have he1 := endL_ok h 0 k (cn : Int)
          obtain ⟨s1, hs1⟩ : ∃ x, secI h 0 (67 + 2 * (k : Int) + (cn : Int)) = x := ⟨_, rfl⟩
          obtain ⟨e1, he1'⟩ : ∃ x, endL h 0 k (cn : Int) = x := ⟨_, rfl⟩
          rw [hs1] at hl1 hb1 hee1
          rw [he1'] at hee1 he1 HRE0
          have HRE1 := Lib.hid HRE0.out
          have HS1E := Lib.hid hs1
          have HE1E := Lib.hid hee1
          have HLs1 := Lib.hid hl1
          have HBs1 := Lib.hid hb1
          have HLe1 := Lib.hid he1.1
          clear hl1 hb1 hee1 he1 hs1 he1' HRE0 HRE1' hcb
          go_wp2_with fail
          refine region_mono Up [fun v _ => v = .slice (some ⟨g, 0, none⟩) 512 cg,
              fun v _ => v = .int .i64 (k : Int),
              fun v _ => v = .int .i64 (2 * (k : Int)),
              fun v _ => v = .pointer (some ⟨g, 32 * (2 * k), none⟩),
              fun v _ => v = hashV s0,
              fun v _ => v = .int .i64 (k : Int),
              fun v _ => v = .int .i64 (67 + (k : Int)),
              fun v _ => v = .int .i64 (bn : Int),
              fun v _ => v = hashV e0,
              fun v _ => v = hashV h,
              fun v _ => v = .int .i64 (k : Int),
              fun v _ => v = .int .i64 (2 * (k : Int)),
              fun v _ => v = .int .i64 (67 + 2 * (k : Int)),
              fun v _ => v = .int .i64 (bn : Int),
              fun v _ => v = .int .i64 (67 + 2 * (k : Int) + (bn : Int)),
              fun v _ => v = hashV s0,
              fun v _ => v = .int .i64 (k : Int),
              fun v _ => v = .int .i64 (67 + (k : Int)),
              fun v _ => v = .int .i64 (bn : Int),
              fun v _ => v = hashV e0,
              fun v _ => v = .bool false,
              fun v _ => v = .bool false,
              fun v _ => v = .int .i64 (bn : Int),
              fun v _ => v = .int .i64 (cn : Int),
              fun v _ => v = .bool true,
              fun v _ => v = .bool true,
              fun v _ => v = .slice (some ⟨g, 0, none⟩) 512 cg,
              fun v _ => v = .int .i64 (k : Int),
              fun v _ => v = .int .i64 (2 * (k : Int)),
              fun v _ => v = .int .i64 (2 * (k : Int) + 1),
              fun v _ => v = .pointer (some ⟨g, 32 * (2 * k + 1), none⟩),
              fun v _ => v = hashV e1,
              fun v _ => v = hashV h,
              fun v _ => v = .int .i64 (k : Int),
              fun v _ => v = .int .i64 (2 * (k : Int)),
              fun v _ => v = .int .i64 (67 + 2 * (k : Int)),
              fun v _ => v = .int .i64 (cn : Int),
              fun v _ => v = .int .i64 (67 + 2 * (k : Int) + (cn : Int)),
              fun v _ => v = hashV s1,
              fun v _ => v = .int .i64 (k : Int),
              fun v _ => v = .int .i64 (67 + (k : Int)),
              fun v _ => v = .int .i64 (cn : Int),
              fun v _ => v = hashV e1,
              fun v _ => v = .bool false,
              fun v _ => v = .bool false,
              fun v _ => v = .bool false] (by kernel_rfl) (by kernel_rfl) (Chg.refl _) (fun _ _ _ => Chg.trans) (by simp) ?_ ?_ ?_
          · simp only [List.forall_mem_cons]
            exact ⟨fun _ _ _ _ _ h => h, fun _ _ _ _ _ h => h, fun _ _ _ _ _ h => h, fun _ _ _ _ _ h => h, fun _ _ _ _ _ h => h, fun _ _ _ _ _ h => h, fun _ _ _ _ _ h => h, fun _ _ _ _ _ h => h, fun _ _ _ _ _ h => h, fun _ _ _ _ _ h => h, fun _ _ _ _ _ h => h, fun _ _ _ _ _ h => h, fun _ _ _ _ _ h => h, fun _ _ _ _ _ h => h, fun _ _ _ _ _ h => h, fun _ _ _ _ _ h => h, fun _ _ _ _ _ h => h, fun _ _ _ _ _ h => h, fun _ _ _ _ _ h => h, fun _ _ _ _ _ h => h, fun _ _ _ _ _ h => h, fun _ _ _ _ _ h => h, fun _ _ _ _ _ h => h, fun _ _ _ _ _ h => h, fun _ _ _ _ _ h => h, fun _ _ _ _ _ h => h, fun _ _ _ _ _ h => h, fun _ _ _ _ _ h => h, fun _ _ _ _ _ h => h, fun _ _ _ _ _ h => h, fun _ _ _ _ _ h => h, fun _ _ _ _ _ h => h, fun _ _ _ _ _ h => h, fun _ _ _ _ _ h => h, fun _ _ _ _ _ h => h, fun _ _ _ _ _ h => h, fun _ _ _ _ _ h => h, fun _ _ _ _ _ h => h, fun _ _ _ _ _ h => h, fun _ _ _ _ _ h => h, fun _ _ _ _ _ h => h, fun _ _ _ _ _ h => h, fun _ _ _ _ _ h => h, fun _ _ _ _ _ h => h, fun _ _ _ _ _ h => h, fun _ _ _ _ _ h => h, by simp⟩
          · refine ⟨?_, ?_, ?_, ?_, ?_, ?_, ?_, ?_, ?_, ?_, ?_, ?_, ?_, ?_, ?_, ?_, ?_, ?_, ?_, ?_, ?_, ?_, ?_, ?_, ?_, ?_, ?_, ?_, ?_, ?_, ?_, ?_, ?_, ?_, ?_, ?_, ?_, ?_, ?_, ?_, ?_, ?_, ?_, ?_, ?_, ?_, trivial⟩
            · intro ρ w1 hw h0 hc hg hf hd
              have s7 : ρ (.tmp 7) = .slice (some ⟨g, 0, none⟩) 512 cg := h0 7 (by kernel_rfl)
              refine ⟨fun _ => ?_, fun h => by cases h⟩
              clear h0 hg hd
              exact gives_move rfl ⟨Chg.refl _ _, s7⟩
            · intro ρ w1 hw h0 hc hg hf hd
              have s9 : ρ (.tmp 9) = .int .i64 (k : Int) := h0 9 (by kernel_rfl)
              refine ⟨fun _ => ?_, fun h => by cases h⟩
              clear h0 hg hd
              exact gives_move rfl ⟨Chg.refl _ _, s9⟩
            · intro ρ w1 hw h0 hc hg hf hd
              have d1 := hd ⟨1, .data⟩ (by simp) rfl _ _ _ rfl rfl rfl
              refine ⟨fun _ => ?_, fun h => by cases h⟩
              clear h0 hg hd
              clear hf
              refine Gives.value (w' := w1) ?_ ⟨Chg.refl _ _, rfl⟩
              go_simp
              exact wrap_small _ (by omega) (by omega)
            · intro ρ w1 hw h0 hc hg hf hd
              have d0 := hd ⟨0, .data⟩ (by simp) rfl _ _ _ rfl rfl rfl
              have d2 := hd ⟨2, .data⟩ (by simp) rfl _ _ _ rfl rfl rfl
              refine ⟨fun _ => ?_, fun h => by cases h⟩
              clear h0 hg hd
              clear hf
              refine Gives.value (w' := w1) ?_ ⟨Chg.refl _ _, rfl⟩
              go_simp
              rw [if_pos (by omega), show (2 * (k : Int)).toNat * 32 = 32 * (2 * k) by omega]
            · intro ρ w1 hw h0 hc hg hf hd
              have d3 := hd ⟨3, .data⟩ (by simp) rfl _ _ _ rfl rfl rfl
              refine ⟨fun _ => ?_, fun h => by cases h⟩
              clear h0 hg hd
              exact gives_hash rfl d3 HLs0.out (Rng.up HRS0.out hw) ⟨Chg.refl _ _, rfl⟩
            · intro ρ w1 hw h0 hc hg hf hd
              have s9 : ρ (.tmp 9) = .int .i64 (k : Int) := h0 9 (by kernel_rfl)
              refine ⟨fun _ => ?_, fun h => by cases h⟩
              clear h0 hg hd
              exact gives_move rfl ⟨Chg.refl _ _, s9⟩
            · intro ρ w1 hw h0 hc hg hf hd
              have d5 := hd ⟨5, .data⟩ (by simp) rfl _ _ _ rfl rfl rfl
              refine ⟨fun _ => ?_, fun h => by cases h⟩
              clear h0 hg hd
              clear hf
              refine Gives.value (w' := w1) ?_ ⟨Chg.refl _ _, rfl⟩
              go_simp
              exact wrap_small _ (by omega) (by omega)
            · intro ρ w1 hw h0 hc hg hf hd
              have s10 : ρ (.tmp 10) = .int .i64 (bn : Int) := h0 10 (by kernel_rfl)
              refine ⟨fun _ => ?_, fun h => by cases h⟩
              clear h0 hg hd
              exact gives_move rfl ⟨Chg.refl _ _, s10⟩
            · intro ρ w1 hw h0 hc hg hf hd
              have d4 := hd ⟨4, .data⟩ (by simp) rfl _ _ _ rfl rfl rfl
              have d6 := hd ⟨6, .data⟩ (by simp) rfl _ _ _ rfl rfl rfl
              have d7 := hd ⟨7, .data⟩ (by simp) rfl _ _ _ rfl rfl rfl
              refine ⟨fun _ => ?_, fun h => by cases h⟩
              clear h0 hg hd
              have hcl := chain_any s0 (67 + (k : Int)) (bn : Int) w1 HLs0.out HBs0.out (by omega) (by omega) (by omega) (by omega) (HLAo.out.up hw)
              unfold SumPost at hcl
              rw [stepI_eq, HE0E.out] at hcl
              refine gives_call rfl hf Tryd.func42 rfl (by kernel_rfl) (args := #[hashV s0, .int .i64 (67 + (k : Int)), .int .i64 (bn : Int)]) (by simp [hc, d4, d6, d7]) (hcl.mono ?_)
              rintro e w2 ⟨rfl, hb⟩
              exact ⟨_, rfl, up_below hb, rfl⟩
            · intro ρ w1 hw h0 hc hg hf hd
              have s3 : ρ (.tmp 3) = .pointer (some ⟨w.heap.size, 0, none⟩) := h0 3 (by kernel_rfl)
              refine ⟨fun _ => ?_, fun h => by cases h⟩
              clear h0 hg hd
              clear hc hf
              rw [HCX.out]
              exact gives_load_row rfl s3 (hw.heap HXR.out (fun h => h)) Tryd.underlying25 rfl HSX.out ⟨Chg.refl _ _, rfl⟩
            · intro ρ w1 hw h0 hc hg hf hd
              have s9 : ρ (.tmp 9) = .int .i64 (k : Int) := h0 9 (by kernel_rfl)
              refine ⟨fun _ => ?_, fun h => by cases h⟩
              clear h0 hg hd
              exact gives_move rfl ⟨Chg.refl _ _, s9⟩
            · intro ρ w1 hw h0 hc hg hf hd
              have d10 := hd ⟨10, .data⟩ (by simp) rfl _ _ _ rfl rfl rfl
              refine ⟨fun _ => ?_, fun h => by cases h⟩
              clear h0 hg hd
              clear hf
              refine Gives.value (w' := w1) ?_ ⟨Chg.refl _ _, rfl⟩
              go_simp
              exact wrap_small _ (by omega) (by omega)
            · intro ρ w1 hw h0 hc hg hf hd
              have d11 := hd ⟨11, .data⟩ (by simp) rfl _ _ _ rfl rfl rfl
              refine ⟨fun _ => ?_, fun h => by cases h⟩
              clear h0 hg hd
              clear hf
              refine Gives.value (w' := w1) ?_ ⟨Chg.refl _ _, rfl⟩
              go_simp
              exact wrap_small _ (by omega) (by omega)
            · intro ρ w1 hw h0 hc hg hf hd
              have s10 : ρ (.tmp 10) = .int .i64 (bn : Int) := h0 10 (by kernel_rfl)
              refine ⟨fun _ => ?_, fun h => by cases h⟩
              clear h0 hg hd
              exact gives_move rfl ⟨Chg.refl _ _, s10⟩
            · intro ρ w1 hw h0 hc hg hf hd
              have d12 := hd ⟨12, .data⟩ (by simp) rfl _ _ _ rfl rfl rfl
              have d13 := hd ⟨13, .data⟩ (by simp) rfl _ _ _ rfl rfl rfl
              refine ⟨fun _ => ?_, fun h => by cases h⟩
              clear h0 hg hd
              clear hf
              refine Gives.value (w' := w1) ?_ ⟨Chg.refl _ _, rfl⟩
              go_simp
              exact wrap_small _ (by omega) (by omega)
            · intro ρ w1 hw h0 hc hg hf hd
              have d9 := hd ⟨9, .data⟩ (by simp) rfl _ _ _ rfl rfl rfl
              have d14 := hd ⟨14, .data⟩ (by simp) rfl _ _ _ rfl rfl rfl
              refine ⟨fun _ => ?_, fun h => by cases h⟩
              clear h0 hg hd
              have hcl := secret2_any h 0 (67 + 2 * (k : Int) + (bn : Int)) w1 HL.out HB.out HA.out ⟨by omega, by omega⟩ (HLAo.out.up hw)
              unfold HashPost at hcl
              rw [HS0E.out] at hcl
              refine gives_call rfl hf Tryd.func43 rfl (by kernel_rfl) (args := #[hashV h, .int .i64 0, .int .i64 (67 + 2 * (k : Int) + (bn : Int))]) (by simp [hc, d9, d14]) (hcl.mono ?_)
              rintro e w2 ⟨rfl, hb⟩
              exact ⟨_, rfl, up_below hb, rfl⟩
            · intro ρ w1 hw h0 hc hg hf hd
              have s9 : ρ (.tmp 9) = .int .i64 (k : Int) := h0 9 (by kernel_rfl)
              refine ⟨fun _ => ?_, fun h => by cases h⟩
              clear h0 hg hd
              exact gives_move rfl ⟨Chg.refl _ _, s9⟩
            · intro ρ w1 hw h0 hc hg hf hd
              have d16 := hd ⟨16, .data⟩ (by simp) rfl _ _ _ rfl rfl rfl
              refine ⟨fun _ => ?_, fun h => by cases h⟩
              clear h0 hg hd
              clear hf
              refine Gives.value (w' := w1) ?_ ⟨Chg.refl _ _, rfl⟩
              go_simp
              exact wrap_small _ (by omega) (by omega)
            · intro ρ w1 hw h0 hc hg hf hd
              have s10 : ρ (.tmp 10) = .int .i64 (bn : Int) := h0 10 (by kernel_rfl)
              refine ⟨fun _ => ?_, fun h => by cases h⟩
              clear h0 hg hd
              exact gives_move rfl ⟨Chg.refl _ _, s10⟩
            · intro ρ w1 hw h0 hc hg hf hd
              have d15 := hd ⟨15, .data⟩ (by simp) rfl _ _ _ rfl rfl rfl
              have d17 := hd ⟨17, .data⟩ (by simp) rfl _ _ _ rfl rfl rfl
              have d18 := hd ⟨18, .data⟩ (by simp) rfl _ _ _ rfl rfl rfl
              refine ⟨fun _ => ?_, fun h => by cases h⟩
              clear h0 hg hd
              have hcl := chain_any s0 (67 + (k : Int)) (bn : Int) w1 HLs0.out HBs0.out (by omega) (by omega) (by omega) (by omega) (HLAo.out.up hw)
              unfold SumPost at hcl
              rw [stepI_eq, HE0E.out] at hcl
              refine gives_call rfl hf Tryd.func42 rfl (by kernel_rfl) (args := #[hashV s0, .int .i64 (67 + (k : Int)), .int .i64 (bn : Int)]) (by simp [hc, d15, d17, d18]) (hcl.mono ?_)
              rintro e w2 ⟨rfl, hb⟩
              exact ⟨_, rfl, up_below hb, rfl⟩
            · intro ρ w1 hw h0 hc hg hf hd
              have d8 := hd ⟨8, .data⟩ (by simp) rfl _ _ _ rfl rfl rfl
              have d19 := hd ⟨19, .data⟩ (by simp) rfl _ _ _ rfl rfl rfl
              refine ⟨fun _ => ?_, fun h => by cases h⟩
              clear h0 hg hd
              exact gives_same_ne rfl d8 d19 HLe0.out ⟨Chg.refl _ _, rfl⟩
            · intro ρ w1 hw h0 hc hg hf hd
              have d20 := hd ⟨20, .data⟩ (by simp) rfl _ _ _ rfl rfl rfl
              refine ⟨fun _ => ?_, fun h => by cases h⟩
              clear h0 hg hd
              exact gives_move rfl ⟨Chg.refl _ _, d20⟩
            · intro ρ w1 hw h0 hc hg hf hd
              have d21 := hd ⟨21, .guard⟩ (by simp) rfl _ _ _ rfl rfl rfl
              have s10 : ρ (.tmp 10) = .int .i64 (bn : Int) := h0 10 (by kernel_rfl)
              refine ⟨fun _ => ?_, fun h => by rw [wantedBy_true rfl rfl rfl d21] at h; cases h⟩
              clear d21
              clear h0 hg hd
              exact gives_move rfl ⟨Chg.refl _ _, s10⟩
            · intro ρ w1 hw h0 hc hg hf hd
              have d21 := hd ⟨21, .guard⟩ (by simp) rfl _ _ _ rfl rfl rfl
              have s11 : ρ (.tmp 11) = .int .i64 (cn : Int) := h0 11 (by kernel_rfl)
              refine ⟨fun _ => ?_, fun h => by rw [wantedBy_true rfl rfl rfl d21] at h; cases h⟩
              clear d21
              clear h0 hg hd
              exact gives_move rfl ⟨Chg.refl _ _, s11⟩
            · intro ρ w1 hw h0 hc hg hf hd
              have d22 := hd ⟨22, .data⟩ (by simp) rfl _ _ _ rfl rfl rfl
              have d23 := hd ⟨23, .data⟩ (by simp) rfl _ _ _ rfl rfl rfl
              have d21 := hd ⟨21, .guard⟩ (by simp) rfl _ _ _ rfl rfl rfl
              refine ⟨fun _ => ?_, fun h => by rw [wantedBy_true rfl rfl rfl d21] at h; cases h⟩
              clear d21
              clear h0 hg hd
              clear hf
              refine Gives.value (w' := w1) ?_ ⟨Chg.refl _ _, rfl⟩
              go_simp
              all_goals omega
            · intro ρ w1 hw h0 hc hg hf hd
              have d24 := hd ⟨24, .data⟩ (by simp) rfl _ _ _ rfl rfl rfl
              have d21 := hd ⟨21, .chain⟩ (by simp) rfl _ _ _ rfl rfl rfl
              refine ⟨fun _ => ?_, fun h => by rw [wantedBy_true rfl rfl rfl d21] at h; cases h⟩
              clear d21
              clear h0 hg hd
              exact gives_move rfl ⟨Chg.refl _ _, d24⟩
            · intro ρ w1 hw h0 hc hg hf hd
              have d25 := hd ⟨25, .guard⟩ (by simp) rfl _ _ _ rfl rfl rfl
              have s7 : ρ (.tmp 7) = .slice (some ⟨g, 0, none⟩) 512 cg := h0 7 (by kernel_rfl)
              refine ⟨fun _ => ?_, fun h => by rw [wantedBy_true rfl rfl rfl d25] at h; cases h⟩
              clear d25
              clear h0 hg hd
              exact gives_move rfl ⟨Chg.refl _ _, s7⟩
            · intro ρ w1 hw h0 hc hg hf hd
              have d25 := hd ⟨25, .guard⟩ (by simp) rfl _ _ _ rfl rfl rfl
              have s9 : ρ (.tmp 9) = .int .i64 (k : Int) := h0 9 (by kernel_rfl)
              refine ⟨fun _ => ?_, fun h => by rw [wantedBy_true rfl rfl rfl d25] at h; cases h⟩
              clear d25
              clear h0 hg hd
              exact gives_move rfl ⟨Chg.refl _ _, s9⟩
            · intro ρ w1 hw h0 hc hg hf hd
              have d27 := hd ⟨27, .data⟩ (by simp) rfl _ _ _ rfl rfl rfl
              have d25 := hd ⟨25, .guard⟩ (by simp) rfl _ _ _ rfl rfl rfl
              refine ⟨fun _ => ?_, fun h => by rw [wantedBy_true rfl rfl rfl d25] at h; cases h⟩
              clear d25
              clear h0 hg hd
              clear hf
              refine Gives.value (w' := w1) ?_ ⟨Chg.refl _ _, rfl⟩
              go_simp
              exact wrap_small _ (by omega) (by omega)
            · intro ρ w1 hw h0 hc hg hf hd
              have d28 := hd ⟨28, .data⟩ (by simp) rfl _ _ _ rfl rfl rfl
              have d25 := hd ⟨25, .guard⟩ (by simp) rfl _ _ _ rfl rfl rfl
              refine ⟨fun _ => ?_, fun h => by rw [wantedBy_true rfl rfl rfl d25] at h; cases h⟩
              clear d25
              clear h0 hg hd
              clear hf
              refine Gives.value (w' := w1) ?_ ⟨Chg.refl _ _, rfl⟩
              go_simp
              exact wrap_small _ (by omega) (by omega)
            · intro ρ w1 hw h0 hc hg hf hd
              have d26 := hd ⟨26, .data⟩ (by simp) rfl _ _ _ rfl rfl rfl
              have d29 := hd ⟨29, .data⟩ (by simp) rfl _ _ _ rfl rfl rfl
              have d25 := hd ⟨25, .guard⟩ (by simp) rfl _ _ _ rfl rfl rfl
              refine ⟨fun _ => ?_, fun h => by rw [wantedBy_true rfl rfl rfl d25] at h; cases h⟩
              clear d25
              clear h0 hg hd
              clear hf
              refine Gives.value (w' := w1) ?_ ⟨Chg.refl _ _, rfl⟩
              go_simp
              rw [if_pos (by omega), show (2 * (k : Int) + 1).toNat * 32 = 32 * (2 * k + 1) by omega]
            · intro ρ w1 hw h0 hc hg hf hd
              have d30 := hd ⟨30, .data⟩ (by simp) rfl _ _ _ rfl rfl rfl
              have d25 := hd ⟨25, .guard⟩ (by simp) rfl _ _ _ rfl rfl rfl
              refine ⟨fun _ => ?_, fun h => by rw [wantedBy_true rfl rfl rfl d25] at h; cases h⟩
              clear d25
              clear h0 hg hd
              exact gives_hash rfl d30 HLe1.out (Rng.up HRE1.out hw) ⟨Chg.refl _ _, rfl⟩
            · intro ρ w1 hw h0 hc hg hf hd
              have d25 := hd ⟨25, .guard⟩ (by simp) rfl _ _ _ rfl rfl rfl
              have s3 : ρ (.tmp 3) = .pointer (some ⟨w.heap.size, 0, none⟩) := h0 3 (by kernel_rfl)
              refine ⟨fun _ => ?_, fun h => by rw [wantedBy_true rfl rfl rfl d25] at h; cases h⟩
              clear d25
              clear h0 hg hd
              clear hc hf
              rw [HCX.out]
              exact gives_load_row rfl s3 (hw.heap HXR.out (fun h => h)) Tryd.underlying25 rfl HSX.out ⟨Chg.refl _ _, rfl⟩
            · intro ρ w1 hw h0 hc hg hf hd
              have d25 := hd ⟨25, .guard⟩ (by simp) rfl _ _ _ rfl rfl rfl
              have s9 : ρ (.tmp 9) = .int .i64 (k : Int) := h0 9 (by kernel_rfl)
              refine ⟨fun _ => ?_, fun h => by rw [wantedBy_true rfl rfl rfl d25] at h; cases h⟩
              clear d25
              clear h0 hg hd
              exact gives_move rfl ⟨Chg.refl _ _, s9⟩
            · intro ρ w1 hw h0 hc hg hf hd
              have d33 := hd ⟨33, .data⟩ (by simp) rfl _ _ _ rfl rfl rfl
              have d25 := hd ⟨25, .guard⟩ (by simp) rfl _ _ _ rfl rfl rfl
              refine ⟨fun _ => ?_, fun h => by rw [wantedBy_true rfl rfl rfl d25] at h; cases h⟩
              clear d25
              clear h0 hg hd
              clear hf
              refine Gives.value (w' := w1) ?_ ⟨Chg.refl _ _, rfl⟩
              go_simp
              exact wrap_small _ (by omega) (by omega)
            · intro ρ w1 hw h0 hc hg hf hd
              have d34 := hd ⟨34, .data⟩ (by simp) rfl _ _ _ rfl rfl rfl
              have d25 := hd ⟨25, .guard⟩ (by simp) rfl _ _ _ rfl rfl rfl
              refine ⟨fun _ => ?_, fun h => by rw [wantedBy_true rfl rfl rfl d25] at h; cases h⟩
              clear d25
              clear h0 hg hd
              clear hf
              refine Gives.value (w' := w1) ?_ ⟨Chg.refl _ _, rfl⟩
              go_simp
              exact wrap_small _ (by omega) (by omega)
            · intro ρ w1 hw h0 hc hg hf hd
              have d25 := hd ⟨25, .guard⟩ (by simp) rfl _ _ _ rfl rfl rfl
              have s11 : ρ (.tmp 11) = .int .i64 (cn : Int) := h0 11 (by kernel_rfl)
              refine ⟨fun _ => ?_, fun h => by rw [wantedBy_true rfl rfl rfl d25] at h; cases h⟩
              clear d25
              clear h0 hg hd
              exact gives_move rfl ⟨Chg.refl _ _, s11⟩
            · intro ρ w1 hw h0 hc hg hf hd
              have d35 := hd ⟨35, .data⟩ (by simp) rfl _ _ _ rfl rfl rfl
              have d36 := hd ⟨36, .data⟩ (by simp) rfl _ _ _ rfl rfl rfl
              have d25 := hd ⟨25, .guard⟩ (by simp) rfl _ _ _ rfl rfl rfl
              refine ⟨fun _ => ?_, fun h => by rw [wantedBy_true rfl rfl rfl d25] at h; cases h⟩
              clear d25
              clear h0 hg hd
              clear hf
              refine Gives.value (w' := w1) ?_ ⟨Chg.refl _ _, rfl⟩
              go_simp
              exact wrap_small _ (by omega) (by omega)
            · intro ρ w1 hw h0 hc hg hf hd
              have d32 := hd ⟨32, .data⟩ (by simp) rfl _ _ _ rfl rfl rfl
              have d37 := hd ⟨37, .data⟩ (by simp) rfl _ _ _ rfl rfl rfl
              have d25 := hd ⟨25, .chain⟩ (by simp) rfl _ _ _ rfl rfl rfl
              refine ⟨fun _ => ?_, fun h => by rw [wantedBy_true rfl rfl rfl d25] at h; cases h⟩
              clear d25
              clear h0 hg hd
              have hcl := secret2_any h 0 (67 + 2 * (k : Int) + (cn : Int)) w1 HL.out HB.out HA.out ⟨by omega, by omega⟩ (HLAo.out.up hw)
              unfold HashPost at hcl
              rw [HS1E.out] at hcl
              refine gives_call rfl hf Tryd.func43 rfl (by kernel_rfl) (args := #[hashV h, .int .i64 0, .int .i64 (67 + 2 * (k : Int) + (cn : Int))]) (by simp [hc, d32, d37]) (hcl.mono ?_)
              rintro e w2 ⟨rfl, hb⟩
              exact ⟨_, rfl, up_below hb, rfl⟩
            · intro ρ w1 hw h0 hc hg hf hd
              have d25 := hd ⟨25, .guard⟩ (by simp) rfl _ _ _ rfl rfl rfl
              have s9 : ρ (.tmp 9) = .int .i64 (k : Int) := h0 9 (by kernel_rfl)
              refine ⟨fun _ => ?_, fun h => by rw [wantedBy_true rfl rfl rfl d25] at h; cases h⟩
              clear d25
              clear h0 hg hd
              exact gives_move rfl ⟨Chg.refl _ _, s9⟩
            · intro ρ w1 hw h0 hc hg hf hd
              have d39 := hd ⟨39, .data⟩ (by simp) rfl _ _ _ rfl rfl rfl
              have d25 := hd ⟨25, .guard⟩ (by simp) rfl _ _ _ rfl rfl rfl
              refine ⟨fun _ => ?_, fun h => by rw [wantedBy_true rfl rfl rfl d25] at h; cases h⟩
              clear d25
              clear h0 hg hd
              clear hf
              refine Gives.value (w' := w1) ?_ ⟨Chg.refl _ _, rfl⟩
              go_simp
              exact wrap_small _ (by omega) (by omega)
            · intro ρ w1 hw h0 hc hg hf hd
              have d25 := hd ⟨25, .guard⟩ (by simp) rfl _ _ _ rfl rfl rfl
              have s11 : ρ (.tmp 11) = .int .i64 (cn : Int) := h0 11 (by kernel_rfl)
              refine ⟨fun _ => ?_, fun h => by rw [wantedBy_true rfl rfl rfl d25] at h; cases h⟩
              clear d25
              clear h0 hg hd
              exact gives_move rfl ⟨Chg.refl _ _, s11⟩
            · intro ρ w1 hw h0 hc hg hf hd
              have d38 := hd ⟨38, .data⟩ (by simp) rfl _ _ _ rfl rfl rfl
              have d40 := hd ⟨40, .data⟩ (by simp) rfl _ _ _ rfl rfl rfl
              have d41 := hd ⟨41, .data⟩ (by simp) rfl _ _ _ rfl rfl rfl
              have d25 := hd ⟨25, .guard⟩ (by simp) rfl _ _ _ rfl rfl rfl
              refine ⟨fun _ => ?_, fun h => by rw [wantedBy_true rfl rfl rfl d25] at h; cases h⟩
              clear d25
              clear h0 hg hd
              have hcl := chain_any s1 (67 + (k : Int)) (cn : Int) w1 HLs1.out HBs1.out (by omega) (by omega) (by omega) (by omega) (HLAo.out.up hw)
              unfold SumPost at hcl
              rw [stepI_eq, HE1E.out] at hcl
              refine gives_call rfl hf Tryd.func42 rfl (by kernel_rfl) (args := #[hashV s1, .int .i64 (67 + (k : Int)), .int .i64 (cn : Int)]) (by simp [hc, d38, d40, d41]) (hcl.mono ?_)
              rintro e w2 ⟨rfl, hb⟩
              exact ⟨_, rfl, up_below hb, rfl⟩
            · intro ρ w1 hw h0 hc hg hf hd
              have d31 := hd ⟨31, .data⟩ (by simp) rfl _ _ _ rfl rfl rfl
              have d42 := hd ⟨42, .data⟩ (by simp) rfl _ _ _ rfl rfl rfl
              have d25 := hd ⟨25, .guard⟩ (by simp) rfl _ _ _ rfl rfl rfl
              refine ⟨fun _ => ?_, fun h => by rw [wantedBy_true rfl rfl rfl d25] at h; cases h⟩
              clear d25
              clear h0 hg hd
              exact gives_same_ne rfl d31 d42 HLe1.out ⟨Chg.refl _ _, rfl⟩
            · intro ρ w1 hw h0 hc hg hf hd
              have d25 := hd ⟨25, .data⟩ (by simp) rfl _ _ _ rfl rfl rfl
              have d43 := hd ⟨43, .data⟩ (by simp) rfl _ _ _ rfl rfl rfl
              have d21 := hd ⟨21, .guard⟩ (by simp) rfl _ _ _ rfl rfl rfl
              refine ⟨fun _ => ?_, fun h => by rw [wantedBy_true rfl rfl rfl d21] at h; cases h⟩
              clear d21
              clear h0 hg hd
              clear hf
              refine Gives.value (w' := w1) ?_ ⟨Chg.refl _ _, rfl⟩
              go_simp
            · intro ρ w1 hw h0 hc hg hf hd
              have d21 := hd ⟨21, .data⟩ (by simp) rfl _ _ _ rfl rfl rfl
              have d44 := hd ⟨44, .data⟩ (by simp) rfl _ _ _ rfl rfl rfl
              refine ⟨fun _ => ?_, fun h => by cases h⟩
              clear h0 hg hd
              clear hf
              refine Gives.value (w' := w1) ?_ ⟨Chg.refl _ _, rfl⟩
              go_simp
          · intro vs w8 hw hr
            have h45 := hr 45 _ rfl
            clear hr
            dsimp only [putsL, restL]
            simp only [Act.put, List.setIfInBounds_toArray, List.set_cons_zero, List.set_cons_succ]
            rw [h45]
            have HU8 := Lib.hid (HU7.out.trans hw)
            clear hw h45
            go_wp2_with fail
            go_roundw
            case rel => exact ⟨k + 1, by omega, by go_num, HU8.out⟩
            case measure => simp [intOf]; omega
    · obtain rfl : k = 256 := by omega
      have HU9 := Lib.hid (HU3.out.trans hu)
      clear hu
      go_wp2_with fail
      refine (awakeB_any _).mono ?_
      rintro e W9 ⟨rfl, hb9⟩
      go_wp2
      go_ret
      exact ⟨rfl, (HU9.out.trans (up_below hb9)).below_none (fun _ _ h => h)⟩
end Go.Proofs.YtaahffminoekfaaDoor
