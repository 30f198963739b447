/-
  The law 'WotsRecovers', walked.
-/
import Derived.Test.YtaahffminoekfaaDoorY7
namespace Go.Proofs.YtaahffminoekfaaDoor
open Go.RowKit
set_option maxRecDepth 100000 in
set_option maxHeartbeats 4000000 in
theorem wotsRecovers_any (h : List Int) (v : Value) (sg : List (List Int)) (w : World) (hl : h.length = 32) (hb : Bytes h) (hv : SlH w v sg) (hla : Laid w) :
    Calls Tryd.prog 15 #[hashV h, v] w (TruePost w) := by
  have hl2 := hla.lt
  have hsm := hv.small
  obtain ⟨cx, hcx, hux, _, _, hsz, hs32⟩ := hash_parts h hl
  have hsh : ∃ A c, v = .slice A sg.length c := by
    rcases hv with ⟨rfl, rfl⟩ | ⟨a, c, rfl, _⟩
    · exact ⟨_, _, rfl⟩
    · exact ⟨_, _, rfl⟩
  obtain ⟨A, ac, rfl⟩ := hsh
  obtain ⟨W0, hW0⟩ : ∃ W0, W0 = w.alloc (.cells cx 25) := ⟨_, rfl⟩
  have hu0 : Up w W0 := by rw [hW0]; exact (Chg.refl _ w).alloc _
  have HX0 : Hid (W0.heap[w.heap.size]? = some (.cells cx 25 (0, 0))) := Lib.hid (by rw [hW0]; exact heap_alloc_last _ _)
  have hrec := recover_any h _ sg W0 hl hb (hv.up hu0) (hla.up hu0)
  have haw := awake4_any W0 (hla.up hu0)
  have hdl := refDigits_any h hl hb
  rw [hcx] at hrec hdl ⊢
  have HU0 := Lib.hid hu0
  have HA := Lib.hid haw
  have HREC := Lib.hid hrec
  have HDL := Lib.hid hdl
  have HSX := Lib.hid hsz
  have HCX := Lib.hid hcx
  have HB := Lib.hid hb
  have HL := Lib.hid hl
  have HLA := Lib.hid hla
  have HV := Lib.hid hv
  have HW0 := Lib.hid hW0
  clear hcx hux hl hb hla hsz hs32 hv hW0 hu0 hrec haw hdl
  by_cases h100 : (100 : Int) < sg.length
  case pos =>
    have hg : decide ((100 : Int) < sg.length) = true := by simpa using h100
    go_enter Tryd.func15, Tryd.ntmps15
    go_wp2_with (first | (go_at_call 46; rw [← HW0.out]; refine HA.out.mono ?_; rintro e w' ⟨rfl, hb⟩))
    go_ret
    exact ⟨rfl, (HU0.out.trans (up_below hb)).below_none (fun _ _ h => h)⟩
  case neg =>
    have hg : decide ((100 : Int) < sg.length) = false := by simpa using h100
    go_enter Tryd.func15, Tryd.ntmps15
    go_wp2_with (refine wpList_load_row rfl 25 (.tmp 2) rfl w.heap.size (by rfl) 25 cx (0, 0) _ (by rw [← HW0.out]; exact HX0.out) Tryd.underlying25 rfl HSX.out ?_)
    rw [← HW0.out]
    refine HREC.out.mono ?_
    rintro e V1 ⟨hb1, hcase⟩
    have hu1 := HU0.out.trans (up_below hb1)
    have HX1 := Lib.hid ((up_below hb1).heap HX0.out (fun h => h))
    have HU1 := Lib.hid hu1
    clear hb1 hu1 HA HREC HX0 HU0 HW0
    rcases hcase with ⟨hn, rfl⟩ | ⟨hn, rfl⟩
    case inr =>
      have hne : ((sg.length : Int) != 67) = true := by rw [bne_iff_ne]; omega
      obtain ⟨cz, hcz, hzu, hone, _, hszz, hso⟩ := hash_parts zeroH zero_len
      have q1 : ∀ W : World, (binOp .eql 25 (.agg cz) (.agg #[.int .u8 0, .int .u8 0, .int .u8 0, .int .u8 0, .int .u8 0, .int .u8 0, .int .u8 0, .int .u8 0, .int .u8 0, .int .u8 0, .int .u8 0, .int .u8 0, .int .u8 0, .int .u8 0, .int .u8 0, .int .u8 0, .int .u8 0, .int .u8 0, .int .u8 0, .int .u8 0, .int .u8 0, .int .u8 0, .int .u8 0, .int .u8 0, .int .u8 0, .int .u8 0, .int .u8 0, .int .u8 0, .int .u8 0, .int .u8 0, .int .u8 0, .int .u8 0])).run Tryd.prog W = .ok (.bool true) W := fun W => by
        have h := eql25 zeroH zeroH zero_len zero_len W
        rw [show (zeroH == zeroH) = true by simp] at h
        rw [zero_agg, ← hcz]; exact h
      have q2 : ∀ (op : BinOp) (a b : Operand) (W : World), (eqGuard op 25 a b (.agg cz) (.agg #[.int .u8 0, .int .u8 0, .int .u8 0, .int .u8 0, .int .u8 0, .int .u8 0, .int .u8 0, .int .u8 0, .int .u8 0, .int .u8 0, .int .u8 0, .int .u8 0, .int .u8 0, .int .u8 0, .int .u8 0, .int .u8 0, .int .u8 0, .int .u8 0, .int .u8 0, .int .u8 0, .int .u8 0, .int .u8 0, .int .u8 0, .int .u8 0, .int .u8 0, .int .u8 0, .int .u8 0, .int .u8 0, .int .u8 0, .int .u8 0, .int .u8 0, .int .u8 0])).run Tryd.prog W = .ok () W := fun op a b W => by
        rw [zero_agg, ← hcz]; exact guard25 op a b zeroH zeroH W
      rw [hcz]
      have HO := Lib.hid hso
      have HON := Lib.hid hone
      have HSZ := Lib.hid hszz
      clear hcz hzu hone hszz hso
      go_wp2_with (first
        | refine wpList_store_row rfl 25 (.tmp 5) (.tmp 18) rfl V1.heap.size cz (by rfl) (by rfl) 25 _ (heap_alloc_last V1 _) HSZ.out (by rw [HO.out]; rfl) HON.out ?_
        | refine wpList_load_row_g (by rfl) 25 (.tmp 5) rfl V1.heap.size (by rfl) 25 cz (0, 0) _ (setRow_same _ _ cz _ 25 (0, 0) (heap_alloc_last V1 _)) Tryd.underlying25 rfl HSZ.out ?_
        | (go_at_call 46; refine (awake4_any _ (HLA.out.up ((HU1.out.alloc _).setRow _ (.inr HU1.out.size) cz))).mono ?_; rintro e w' ⟨rfl, hb⟩))
      go_ret
      exact ⟨rfl, (((HU1.out.alloc _).setRow _ (.inr HU1.out.size) cz).trans (up_below hb)).below_none (fun _ _ h => h)⟩
    case inl =>
      have hne : ((sg.length : Int) != 67) = false := by rw [bne_eq_false_iff_eq]; omega
      obtain ⟨b, off, cap, hvv, hv1, hv2, _, hrr⟩ := HV.out.form (by omega)
      injection hvv with h1 h2 h3
      subst h1 h3
      rw [hn] at hne
      have hc67 : 67 ≤ ac := by omega
      have hcm : ac ≤ 9223372036854775807 := by unfold maxLen at hv2; omega
      have HRR := Lib.hid (fun r hr => (hrr r hr).2.2)
      have HN67 := Lib.hid hn
      clear hrr hv1 hv2 h2
      rw [hn] at HV HRR ⊢
      obtain ⟨x, hx⟩ : ∃ x, shaI (4 :: (recI h sg 67).flatten) = x := ⟨_, rfl⟩
      have hxl : x.length = 32 := by rw [← hx]; exact hash_size _
      obtain ⟨hc, hhc, _, hone, _, hsz, hso⟩ := hash_parts x hxl
      rw [hx, hhc]
      have HXX := Lib.hid hx
      have HXL := Lib.hid hxl
      have HHC := Lib.hid hhc
      have HO := Lib.hid hso
      have HON := Lib.hid hone
      have HSZ := Lib.hid hsz
      have hwz : w.heap.size < V1.heap.size := (Array.getElem?_eq_some_iff.1 HX1.out).1
      clear hx hxl hhc hone hsz hso hg hsm h100
      go_wp2_with (first
        | refine wpList_store_row rfl 25 (.tmp 5) (.tmp 18) rfl V1.heap.size hc (by rfl) (by rfl) 25 _ (heap_alloc_last V1 _) HSZ.out (by rw [HO.out]; rfl) HON.out ?_
        | refine wpList_load_row rfl 25 (.tmp 2) rfl w.heap.size (by rfl) 25 cx (0, 0) _ ((setRow_other _ _ _ _ (by omega)).trans ((Below.heap_alloc _ _ _ (by omega)).trans HX1.out)) Tryd.underlying25 rfl HSX.out ?_)
      obtain ⟨B0, hB0⟩ : ∃ B0, B0 = V1.heap.size := ⟨_, rfl⟩
      obtain ⟨V3, hV3⟩ : ∃ V3, V3 = (V1.alloc (.cells (#[.int .u8 0, .int .u8 0, .int .u8 0, .int .u8 0, .int .u8 0, .int .u8 0, .int .u8 0, .int .u8 0, .int .u8 0, .int .u8 0, .int .u8 0, .int .u8 0, .int .u8 0, .int .u8 0, .int .u8 0, .int .u8 0, .int .u8 0, .int .u8 0, .int .u8 0, .int .u8 0, .int .u8 0, .int .u8 0, .int .u8 0, .int .u8 0, .int .u8 0, .int .u8 0, .int .u8 0, .int .u8 0, .int .u8 0, .int .u8 0, .int .u8 0, .int .u8 0]) 25)).setRow V1.heap.size hc := ⟨_, rfl⟩
      rw [← hV3, ← hB0]
      have hs3 : V3.heap[B0]? = some (.cells hc 25 (0, 0)) := by rw [hV3, hB0]; exact setRow_same _ _ hc _ 25 (0, 0) (heap_alloc_last V1 _)
      have hu3 : Up w V3 := by rw [hV3]; exact (HU1.out.alloc _).setRow _ (.inr HU1.out.size) hc
      have hdl := HDL.out V3
      have HS3 := Lib.hid hs3
      have HU3 := Lib.hid hu3
      have HDL3 := Lib.hid hdl
      clear hdl hs3 hu3 hV3 hB0 HX1 HU1 HDL
      refine HDL3.out.mono ?_
      rintro e W1 ⟨v, rfl, hod, hbd⟩
      obtain ⟨gd, cd, rfl, hd1, hd2, hcd⟩ := DigV.of hod
      have hu1 : Up V3 W1 := up_below hbd
      have hc1 : Up w W1 := HU3.out.trans hu1
      have HV1 := Lib.hid (HV.out.up hc1)
      have HR1 := Lib.hid (fun r hr => Rng.up (HRR.out r hr) hc1)
      have HD1 := Lib.hid hcd
      have HLA1 := Lib.hid (HLA.out.up hc1)
      have HS1 := Lib.hid (hu1.heap HS3.out (fun h => h))
      have HC1 := Lib.hid hc1
      clear hod hbd hu1 hc1 hcd HDL3 HV HRR HS3 HU3 HLA HSX hwz
      go_wp2_with fail
      go_loopw [7, 36] (fun o i wr => ∃ (k c : Nat) (B : Option Addr), k ≤ 67 ∧ i = .int .i64 k ∧ o = .slice B k c ∧ wr.ownsRow W1.heap.size 25 32 (.slice B k c) k (u8s (recI h sg k).flatten) ∧ Up W1 wr) (fun _ i _ => 67 - (intOf i).toNat)
      case atStart => exact ⟨0, 0, none, by omega, rfl, rfl, World.ownsRow_nil _ _ _ _, Chg.refl _ _⟩
      case round =>
        rename World => wo
        obtain ⟨k, c, B, hk, rfl, rfl, ho, hu⟩ := hrel
        by_cases hk2 : (k : Int) < 67
        · have hsk := (HV1.out.up hu).lens k (by omega)
          have hrg := Rng.up (HR1.out k (by omega)) hu
          have c1 := hu.cell (HD1.out k (by omega)) (fun h => h)
          have bd := digit_bd h HB.out k (by omega)
          have hrs := recI_succ h sg k
          obtain ⟨d, hd⟩ : ∃ d, (digitsI h).getD k 0 = d := ⟨_, rfl⟩
          obtain ⟨s, hs⟩ : ∃ s, sg.getD k [] = s := ⟨_, rfl⟩
          rw [hd] at c1 bd hrs
          rw [hs] at hsk hrg hrs
          have hcall := walked_any s k d 15 wo hsk.1 hsk.2 ⟨by omega, by omega⟩ ⟨by omega, by omega⟩ ⟨by omega, by omega⟩ (HLA1.out.up hu)
          rw [hashV] at hcall
          have hxl := walkI_len s k d (15 - d).toNat hsk.1
          obtain ⟨x, hx⟩ : ∃ x, walkI s k d (15 - d).toNat = x := ⟨_, rfl⟩
          rw [hx] at hcall hxl hrs
          obtain ⟨cx, hcx, hux, _, _, _, _⟩ := hash_parts x hxl
          unfold HashPost at hcall
          rw [hcx] at hcall
          have HCALL := Lib.hid hcall
          have HRG := Lib.hid hrg
          have HSL := Lib.hid hsk.1
          have HXL := Lib.hid hxl
          have HUX := Lib.hid hux
          have HRS := Lib.hid hrs
          have HO := Lib.hid ho
          have HU := Lib.hid hu
          have bd0 := bd.1
          have bd1 := bd.2
          clear hcall hrg hsk hxl hcx hux hrs ho hu hx hd hs bd
          go_wp2_with (refine wpList_load_mid rfl 25 (.tmp 44) rfl b (off + k * 32) (by rfl) (u8s s) _ (by rw [Nat.mul_comm]; exact HRG.out) Tryd.underlying25 rfl (info25l HSL.out) ?_)
          refine HCALL.out.mono ?_
          rintro e W2 ⟨rfl, hb2⟩
          have hu2 : Up wo W2 := up_below hb2
          obtain ⟨A2, c2, w2, hrun, ho2, hc2⟩ := push_hash W2 W1.heap.size _ k (recI h sg k) (own_up HO.out hu2) x cx HUX.out HXL.out (by omega) (by have := HU.out.size; have := hu2.size; omega)
          have HRUN := Lib.hid hrun
          have HO2 := Lib.hid ho2
          have HU2 := Lib.hid ((HU.out.trans hu2).then hc2 (fun i hi => .inr (by have := ((own_up HO.out hu2).lt i hi).1; omega)))
          clear hb2 hu2 hrun ho2 hc2
          go_wp2_with (first
            | refine wpList_build_hash rfl (.tmp 48) rfl x cx HUX.out HXL.out (by rfl) ?_
            | (at_builtin; refine wpList_run_append rfl _ _ 49 rfl _ _ rfl rfl 49 rfl HRUN.out ?_))
          go_roundw
          case rel =>
            refine ⟨k + 1, c2, A2, by omega, by go_num, rfl, ?_, HU2.out⟩
            rw [HRS.out]; exact HO2.out
          case measure => simp [intOf]; omega
        · obtain rfl : k = 67 := by omega
          have hslh : SlH wo (.slice B 67 c) (recI h sg 67) := by
            have h2 := own_slh (w := wo) (base := W1.heap.size) (c := c) (B := B) (hs := recI h sg 67) (by rw [recI_len]; exact ho) (by rw [recI_len]; exact recI_each h sg 67 (fun r hr => HV1.out.lens r (by have := HN67.out; omega)))
            rwa [recI_len] at h2
          have hud : Up wo wo.drew := (Chg.refl _ _).drew
          have HSLH := Lib.hid (hslh.up hud)
          have HS4 := Lib.hid ((hu.trans hud).heap HS1.out (fun h => h))
          have HC4 := Lib.hid ((HC1.out.trans hu).trans hud)
          have HLA4 := Lib.hid (HLA1.out.up (hu.trans hud))
          clear hslh hud ho hu HS1 HC1 HLA1 HV1 HR1 HD1
          go_wp2_with fail
          refine region_mono Up [fun v _ => v = .int .i64 0,
              fun v _ => v = .bool true,
              fun v _ => v = .bool true,
              fun v _ => v = hashV x,
              fun v _ => v = .slice B 67 c,
              fun v _ => v = hashV x,
              fun v _ => v = .bool true,
              fun v _ => v = .bool true,
              fun v _ => v = .bool true,
              fun v _ => v = .bool true,
              fun v _ => v = .bool true] (by kernel_rfl) (by kernel_rfl) (Chg.refl _) (fun _ _ _ => Chg.trans) (by simp) ?_ ?_ ?_
          · simp only [List.forall_mem_cons]
            exact ⟨fun _ _ _ _ _ h => h, fun _ _ _ _ _ h => h, fun _ _ _ _ _ h => h, fun _ _ _ _ _ h => h, fun _ _ _ _ _ h => h, fun _ _ _ _ _ h => h, fun _ _ _ _ _ h => h, fun _ _ _ _ _ h => h, fun _ _ _ _ _ h => h, fun _ _ _ _ _ h => h, fun _ _ _ _ _ h => h, by simp⟩
          · refine ⟨?_, ?_, ?_, ?_, ?_, ?_, ?_, ?_, ?_, ?_, ?_, trivial⟩
            · intro ρ w1 hw h0 hc hg hf hd
              have s6 : ρ (.tmp 6) = .int .i64 0 := h0 6 (by kernel_rfl)
              refine ⟨fun _ => ?_, fun h => by cases h⟩
              clear h0 hg hd
              exact gives_move rfl ⟨Chg.refl _ _, s6⟩
            · intro ρ w1 hw h0 hc hg hf hd
              have d0 := hd ⟨0, .data⟩ (by simp) rfl _ _ _ rfl rfl rfl
              refine ⟨fun _ => ?_, fun h => by cases h⟩
              clear h0 hg hd
              clear hf
              refine Gives.value (w' := w1) ?_ ⟨Chg.refl _ _, rfl⟩
              go_simp
            · intro ρ w1 hw h0 hc hg hf hd
              have d1 := hd ⟨1, .data⟩ (by simp) rfl _ _ _ rfl rfl rfl
              refine ⟨fun _ => ?_, fun h => by cases h⟩
              clear h0 hg hd
              exact gives_move rfl ⟨Chg.refl _ _, d1⟩
            · intro ρ w1 hw h0 hc hg hf hd
              have d2 := hd ⟨2, .guard⟩ (by simp) rfl _ _ _ rfl rfl rfl
              have s5 : ρ (.tmp 5) = .pointer (some ⟨B0, 0, none⟩) := h0 5 (by kernel_rfl)
              refine ⟨fun _ => ?_, fun h => by rw [wantedBy_true rfl rfl rfl d2] at h; cases h⟩
              clear d2
              clear h0 hg hd
              clear hc hf
              rw [HHC.out]
              exact gives_load_row rfl s5 (hw.heap HS4.out (fun h => h)) Tryd.underlying25 rfl HSZ.out ⟨Chg.refl _ _, rfl⟩
            · intro ρ w1 hw h0 hc hg hf hd
              have d2 := hd ⟨2, .guard⟩ (by simp) rfl _ _ _ rfl rfl rfl
              have s7 : ρ (.tmp 7) = .slice B 67 c := h0 7 (by kernel_rfl)
              refine ⟨fun _ => ?_, fun h => by rw [wantedBy_true rfl rfl rfl d2] at h; cases h⟩
              clear d2
              clear h0 hg hd
              exact gives_move rfl ⟨Chg.refl _ _, s7⟩
            · intro ρ w1 hw h0 hc hg hf hd
              have d4 := hd ⟨4, .data⟩ (by simp) rfl _ _ _ rfl rfl rfl
              have d2 := hd ⟨2, .chain⟩ (by simp) rfl _ _ _ rfl rfl rfl
              refine ⟨fun _ => ?_, fun h => by rw [wantedBy_true rfl rfl rfl d2] at h; cases h⟩
              clear d2
              clear h0 hg hd
              have hcl := public_any _ _ w1 (HSLH.out.up hw) (by rw [recI_len]; omega) (HLA4.out.up hw)
              unfold SumPost at hcl
              rw [HXX.out] at hcl
              refine gives_call rfl hf Tryd.func39 rfl (by kernel_rfl) (args := #[.slice B 67 c]) (by simp [hc, d4]) (hcl.mono ?_)
              rintro e w2 ⟨rfl, hb⟩
              exact ⟨_, rfl, up_below hb, rfl⟩
            · intro ρ w1 hw h0 hc hg hf hd
              have d3 := hd ⟨3, .data⟩ (by simp) rfl _ _ _ rfl rfl rfl
              have d5 := hd ⟨5, .data⟩ (by simp) rfl _ _ _ rfl rfl rfl
              have d2 := hd ⟨2, .guard⟩ (by simp) rfl _ _ _ rfl rfl rfl
              refine ⟨fun _ => ?_, fun h => by rw [wantedBy_true rfl rfl rfl d2] at h; cases h⟩
              clear d2
              clear h0 hg hd
              exact gives_same rfl d3 d5 HXL.out ⟨Chg.refl _ _, rfl⟩
            · intro ρ w1 hw h0 hc hg hf hd
              have d2 := hd ⟨2, .data⟩ (by simp) rfl _ _ _ rfl rfl rfl
              have d6 := hd ⟨6, .data⟩ (by simp) rfl _ _ _ rfl rfl rfl
              refine ⟨fun _ => ?_, fun h => by cases h⟩
              clear h0 hg hd
              clear hf
              refine Gives.value (w' := w1) ?_ ⟨Chg.refl _ _, rfl⟩
              go_simp
            · intro ρ w1 hw h0 hc hg hf hd
              have d7 := hd ⟨7, .data⟩ (by simp) rfl _ _ _ rfl rfl rfl
              refine ⟨fun _ => ?_, fun h => by cases h⟩
              clear h0 hg hd
              exact gives_move rfl ⟨Chg.refl _ _, d7⟩
            · intro ρ w1 hw h0 hc hg hf hd
              have d8 := hd ⟨8, .chain⟩ (by simp) rfl _ _ _ rfl rfl rfl
              refine ⟨fun _ => ?_, fun h => by rw [wantedBy_true rfl rfl rfl d8] at h; cases h⟩
              clear d8
              clear h0 hg hd
              refine gives_call rfl hf Tryd.func46 rfl (by kernel_rfl) (args := #[]) (by simp [hc]) ((awake4_any w1 (HLA4.out.up hw)).mono ?_)
              rintro e w2 ⟨rfl, hb⟩
              exact ⟨_, rfl, up_below hb, rfl⟩
            · intro ρ w1 hw h0 hc hg hf hd
              have d8 := hd ⟨8, .data⟩ (by simp) rfl _ _ _ rfl rfl rfl
              have d9 := hd ⟨9, .data⟩ (by simp) rfl _ _ _ rfl rfl rfl
              refine ⟨fun _ => ?_, fun h => by cases h⟩
              clear h0 hg hd
              clear hf
              refine Gives.value (w' := w1) ?_ ⟨Chg.refl _ _, rfl⟩
              go_simp
          · intro vs w2 hw hr
            have h10 := hr 10 _ rfl
            clear hr
            dsimp only [putsL, restL]
            simp only [Act.put, List.setIfInBounds_toArray, List.set_cons_zero, List.set_cons_succ]
            rw [h10]
            have HU9 := Lib.hid (HC4.out.trans hw)
            clear hw h10
            go_wp2
            go_ret
            exact ⟨rfl, HU9.out.below_none (fun _ _ h => h)⟩
end Go.Proofs.YtaahffminoekfaaDoor
