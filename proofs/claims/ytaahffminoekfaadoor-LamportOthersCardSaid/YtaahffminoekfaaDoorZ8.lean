/-
  The law 'LamportSigns', walked.
-/
import Derived.Test.YtaahffminoekfaaDoorZ7
import Derived.Test.YtaahffminoekfaaDoorY10
namespace Go.Proofs.YtaahffminoekfaaDoor
open Go.RowKit
theorem gives_same_ne {o : Oper} {ρ : Operand → Value} {w : World} {Φ : Value → World → Prop} {x y : Operand} {a : List Int} (ho : o.op = .binOp .neq 25 x y 25) (hx : ρ x = hashV a) (hy : ρ y = hashV a) (la : a.length = 32) (k : Φ (.bool false) w) : Gives Tryd.prog o ρ w Φ :=
  gives_differ ho hx hy la la (by simpa using k)
theorem sgnL_len (h : List Int) (a : Int) (m : List Int) : (sgnL h a m 256).length = 512 := pairs_len _ _ _
set_option maxRecDepth 100000 in
set_option maxHeartbeats 4000000 in
theorem lamportSigns_any (h : List Int) (a : Int) (m : List Int) (w : World) (hl : h.length = 32) (hb : Bytes h) (ha : I64 a) (hlm : m.length = 32) (hbm : Bytes m) (hla : Laid w) :
    Calls Tryd.prog 19 #[hashV h, .int .i64 a, hashV m] w (TruePost w) := by
  have hl2 := hla.lt
  obtain ⟨cx, hcx, hux, _, _, hsz, hs32⟩ := hash_parts h hl
  obtain ⟨cm, hcm, hum, _, _, hszm, _⟩ := hash_parts m hlm
  obtain ⟨W0, hW0⟩ : ∃ W0, W0 = (w.alloc (.cells cx 25)).alloc (.cells cm 25) := ⟨_, rfl⟩
  have HM0 : Hid (W0.heap[w.heap.size + 1]? = some (.cells cm 25 (0, 0))) := Lib.hid (by
    rw [hW0]; have := heap_alloc_last (w.alloc (.cells cx 25)) (.cells cm 25); rwa [World.size_alloc] at this)
  have HX0 : Hid (W0.heap[w.heap.size]? = some (.cells cx 25 (0, 0))) := Lib.hid (by rw [hW0]; exact (Below.heap_alloc _ _ _ (by simp)).trans (heap_alloc_last _ _))
  have HU0 : Hid (Up w W0) := Lib.hid (by rw [hW0]; exact ((Chg.refl _ w).alloc _).alloc _)
  have hwz0 : w.heap.size + 1 < W0.heap.size := (Array.getElem?_eq_some_iff.1 HM0.out).1
  have hkey := lpub_any h a W0 hl hb ha (hla.up HU0.out)
  have hsgn := fun W hla => lsign_any h a m W hl hb ha hlm hbm hla
  have hbit := fun (k : Nat) hk W => refBit_any m cm k hk hbm (fun j hj => hash_at m cm hum hlm j hj) W
  have hrec := fun v sg W hs hla => lrec_any m v sg W hlm hbm hs hla
  rw [hcx] at hkey
  rw [hcm] at hrec
  rw [hcx, hcm] at hsgn ⊢
  have HKEY := Lib.hid hkey
  have HSGN := Lib.hid hsgn
  have HBIT := Lib.hid hbit
  have HREC := Lib.hid hrec
  have HWL := Lib.hid hW0
  have HCX := Lib.hid hcx
  have HCM := Lib.hid hcm
  have HSM := Lib.hid hszm
  have HSX := Lib.hid hsz
  have HB := Lib.hid hb
  have HL := Lib.hid hl
  have HA := Lib.hid ha
  have HBM := Lib.hid hbm
  have HLA := Lib.hid hla
  have ha1 := ha.1
  have ha2 := ha.2
  clear hcx hux hl hb hla hsz hs32 hW0 ha hcm hum hszm hlm hbm hkey hsgn hbit hrec
  by_cases hin : inRange a
  case neg =>
    have HIN := Lib.hid hin
    obtain ⟨cz, hcz, hzu, hone, _, hszz, hso⟩ := hash_parts zeroH zero_len
    have q1 : ∀ W : World, (binOp .eql 25 (.agg cz) (.agg #[.int .u8 0, .int .u8 0, .int .u8 0, .int .u8 0, .int .u8 0, .int .u8 0, .int .u8 0, .int .u8 0, .int .u8 0, .int .u8 0, .int .u8 0, .int .u8 0, .int .u8 0, .int .u8 0, .int .u8 0, .int .u8 0, .int .u8 0, .int .u8 0, .int .u8 0, .int .u8 0, .int .u8 0, .int .u8 0, .int .u8 0, .int .u8 0, .int .u8 0, .int .u8 0, .int .u8 0, .int .u8 0, .int .u8 0, .int .u8 0, .int .u8 0, .int .u8 0])).run Tryd.prog W = .ok (.bool true) W := fun W => by
      have h := eql25 zeroH zeroH zero_len zero_len W
      rw [show (zeroH == zeroH) = true by simp] at h
      rw [zero_agg, ← hcz]; exact h
    have q2 : ∀ (op : BinOp) (a b : Operand) (W : World), (eqGuard op 25 a b (.agg cz) (.agg #[.int .u8 0, .int .u8 0, .int .u8 0, .int .u8 0, .int .u8 0, .int .u8 0, .int .u8 0, .int .u8 0, .int .u8 0, .int .u8 0, .int .u8 0, .int .u8 0, .int .u8 0, .int .u8 0, .int .u8 0, .int .u8 0, .int .u8 0, .int .u8 0, .int .u8 0, .int .u8 0, .int .u8 0, .int .u8 0, .int .u8 0, .int .u8 0, .int .u8 0, .int .u8 0, .int .u8 0, .int .u8 0, .int .u8 0, .int .u8 0, .int .u8 0, .int .u8 0])).run Tryd.prog W = .ok () W := fun op a b W => by
      rw [zero_agg, ← hcz]; exact guard25 op a b zeroH zeroH W
    have HCZ := Lib.hid hcz
    have HO := Lib.hid hso
    have HON := Lib.hid hone
    have HSZ := Lib.hid hszz
    clear hcz hzu hone hszz hso hin
    go_enter Tryd.func19, Tryd.ntmps19
    go_wp2_with (refine wpList_load_row rfl 25 (.tmp 3) rfl w.heap.size (by rfl) 25 cx (0, 0) _ (by rw [← HWL.out]; exact HX0.out) Tryd.underlying25 rfl HSX.out ?_)
    rw [← HWL.out]
    refine HKEY.out.mono ?_
    rintro e V1 ⟨hb1, hcase⟩
    obtain ⟨_, rfl⟩ := hcase.resolve_left (fun hc => HIN.out hc.1)
    rw [HCZ.out]
    have HX1 := Lib.hid ((up_below hb1).heap HX0.out (fun h => h))
    have HM1 := Lib.hid ((up_below hb1).heap HM0.out (fun h => h))
    have HU1 := Lib.hid (HU0.out.trans (up_below hb1))
    have hz1 := hb1.size
    clear hb1 hcase HX0 HM0 HU0 HWL HKEY
    go_wp2_with (first
      | refine wpList_store_row rfl 25 (.tmp 7) (.tmp 20) rfl V1.heap.size cz (by rfl) (by rfl) 25 _ (heap_alloc_last V1 _) HSZ.out (by rw [HO.out]; rfl) HON.out ?_
      | refine wpList_load_row rfl 25 (.tmp 3) rfl w.heap.size (by rfl) 25 cx (0, 0) _ ((setRow_other _ _ _ _ (by omega)).trans ((Below.heap_alloc _ _ _ (by omega)).trans HX1.out)) Tryd.underlying25 rfl HSX.out ?_
      | refine wpList_load_row rfl 25 (.tmp 5) rfl (w.heap.size + 1) (by rfl) 25 cm (0, 0) _ ((setRow_other _ _ _ _ (by omega)).trans ((Below.heap_alloc _ _ _ (by omega)).trans HM1.out)) Tryd.underlying25 rfl HSM.out ?_)
    obtain ⟨B7, hB7⟩ : ∃ B7, B7 = V1.heap.size := ⟨_, rfl⟩
    obtain ⟨V2, hV2⟩ : ∃ V2, V2 = (V1.alloc (.cells (#[.int .u8 0, .int .u8 0, .int .u8 0, .int .u8 0, .int .u8 0, .int .u8 0, .int .u8 0, .int .u8 0, .int .u8 0, .int .u8 0, .int .u8 0, .int .u8 0, .int .u8 0, .int .u8 0, .int .u8 0, .int .u8 0, .int .u8 0, .int .u8 0, .int .u8 0, .int .u8 0, .int .u8 0, .int .u8 0, .int .u8 0, .int .u8 0, .int .u8 0, .int .u8 0, .int .u8 0, .int .u8 0, .int .u8 0, .int .u8 0, .int .u8 0, .int .u8 0]) 25)).setRow V1.heap.size cz := ⟨_, rfl⟩
    rw [← hV2, ← hB7]
    have hs7 : V2.heap[B7]? = some (.cells cz 25 (0, 0)) := by rw [hV2, hB7]; exact setRow_same _ _ cz _ 25 (0, 0) (heap_alloc_last V1 _)
    have hu2 : Up w V2 := by rw [hV2]; exact (HU1.out.alloc _).setRow _ (.inr HU1.out.size) cz
    have HS7 := Lib.hid hs7
    have HU2 := Lib.hid hu2
    clear hs7 hu2 hV2 hB7 HX1 HM1 HU1 hz1
    refine (HSGN.out _ (HLA.out.up HU2.out)).mono ?_
    rintro e V3 ⟨hb3, hcase⟩
    obtain ⟨_, rfl⟩ := hcase.resolve_left (fun hc => HIN.out hc.1)
    have HS73 := Lib.hid ((up_below hb3).heap HS7.out (fun h => h))
    have HU3 := Lib.hid (HU2.out.trans (up_below hb3))
    have HAW := Lib.hid (awakeB_any V3)
    have hout : a < 0 ∨ 2147483647 < a := by have := HIN.out; unfold inRange at this; omega
    clear hb3 hcase HS7 HU2 HSGN HIN HREC HBIT
    rcases Int.lt_or_le a 0 with hneg | hpos
    · go_wp2_with (first
        | refine wpList_load_row_g (by rfl) 25 (.tmp 7) rfl B7 (by rfl) 25 cz (0, 0) _ HS73.out Tryd.underlying25 rfl HSZ.out ?_
        | (go_at_call 52; refine HAW.out.mono ?_; rintro e w' ⟨rfl, hb⟩))
      go_ret
      exact ⟨rfl, (HU3.out.trans (up_below hb)).below_none (fun _ _ h => h)⟩
    · have hbig : 2147483647 < a := by omega
      go_wp2_with (first
        | refine wpList_load_row_g (by rfl) 25 (.tmp 7) rfl B7 (by rfl) 25 cz (0, 0) _ HS73.out Tryd.underlying25 rfl HSZ.out ?_
        | (go_at_call 52; refine HAW.out.mono ?_; rintro e w' ⟨rfl, hb⟩))
      go_ret
      exact ⟨rfl, (HU3.out.trans (up_below hb)).below_none (fun _ _ h => h)⟩
  case pos =>
    have HIN := Lib.hid hin
    have hr0 : 0 ≤ a := hin.1
    have hr1 : a ≤ 2147483647 := hin.2
    obtain ⟨x, hx⟩ : ∃ x, shaI (4 :: (pubL h a 256).flatten) = x := ⟨_, rfl⟩
    have hxl : x.length = 32 := by rw [← hx]; exact hash_size _
    obtain ⟨hc, hhc, _, hone, _, hsz, hso⟩ := hash_parts x hxl
    have hx2 : shaI (4 :: (recL m (sgnL h a m 256) (sgnL h a m 256) 256).flatten) = x := by rw [rec_sgn h a m _ (pairs_len _ _ _)]; exact hx
    have HPX := Lib.hid hx
    have HXX := Lib.hid hx2
    have HXL := Lib.hid hxl
    have HHC := Lib.hid hhc
    have HO := Lib.hid hso
    have HON := Lib.hid hone
    have HSZ := Lib.hid hsz
    clear hx hx2 hxl hhc hone hsz hso hin
    go_enter Tryd.func19, Tryd.ntmps19
    go_wp2_with (refine wpList_load_row rfl 25 (.tmp 3) rfl w.heap.size (by rfl) 25 cx (0, 0) _ (by rw [← HWL.out]; exact HX0.out) Tryd.underlying25 rfl HSX.out ?_)
    rw [← HWL.out]
    refine HKEY.out.mono ?_
    rintro e V1 ⟨hb1, hcase⟩
    obtain ⟨_, rfl⟩ := hcase.resolve_right (fun hc => hc.1 HIN.out)
    rw [HPX.out, HHC.out]
    have HX1 := Lib.hid ((up_below hb1).heap HX0.out (fun h => h))
    have HM1 := Lib.hid ((up_below hb1).heap HM0.out (fun h => h))
    have HU1 := Lib.hid (HU0.out.trans (up_below hb1))
    have hz1 := hb1.size
    clear hb1 hcase HX0 HM0 HU0 HWL HKEY
    go_wp2_with (first
      | refine wpList_store_row rfl 25 (.tmp 7) (.tmp 20) rfl V1.heap.size hc (by rfl) (by rfl) 25 _ (heap_alloc_last V1 _) HSZ.out (by rw [HO.out]; rfl) HON.out ?_
      | refine wpList_load_row rfl 25 (.tmp 3) rfl w.heap.size (by rfl) 25 cx (0, 0) _ ((setRow_other _ _ _ _ (by omega)).trans ((Below.heap_alloc _ _ _ (by omega)).trans HX1.out)) Tryd.underlying25 rfl HSX.out ?_
      | refine wpList_load_row rfl 25 (.tmp 5) rfl (w.heap.size + 1) (by rfl) 25 cm (0, 0) _ ((setRow_other _ _ _ _ (by omega)).trans ((Below.heap_alloc _ _ _ (by omega)).trans HM1.out)) Tryd.underlying25 rfl HSM.out ?_)
    obtain ⟨B7, hB7⟩ : ∃ B7, B7 = V1.heap.size := ⟨_, rfl⟩
    obtain ⟨V2, hV2⟩ : ∃ V2, V2 = (V1.alloc (.cells (#[.int .u8 0, .int .u8 0, .int .u8 0, .int .u8 0, .int .u8 0, .int .u8 0, .int .u8 0, .int .u8 0, .int .u8 0, .int .u8 0, .int .u8 0, .int .u8 0, .int .u8 0, .int .u8 0, .int .u8 0, .int .u8 0, .int .u8 0, .int .u8 0, .int .u8 0, .int .u8 0, .int .u8 0, .int .u8 0, .int .u8 0, .int .u8 0, .int .u8 0, .int .u8 0, .int .u8 0, .int .u8 0, .int .u8 0, .int .u8 0, .int .u8 0, .int .u8 0]) 25)).setRow V1.heap.size hc := ⟨_, rfl⟩
    rw [← hV2, ← hB7]
    have hs7 : V2.heap[B7]? = some (.cells hc 25 (0, 0)) := by rw [hV2, hB7]; exact setRow_same _ _ hc _ 25 (0, 0) (heap_alloc_last V1 _)
    have hu2 : Up w V2 := by rw [hV2]; exact (HU1.out.alloc _).setRow _ (.inr HU1.out.size) hc
    have hx2 : V2.heap[w.heap.size]? = some (.cells cx 25 (0, 0)) := by rw [hV2]; exact ((setRow_other _ _ _ _ (by omega)).trans ((Below.heap_alloc _ _ _ (by omega)).trans HX1.out))
    have hm2 : V2.heap[w.heap.size + 1]? = some (.cells cm 25 (0, 0)) := by rw [hV2]; exact ((setRow_other _ _ _ _ (by omega)).trans ((Below.heap_alloc _ _ _ (by omega)).trans HM1.out))
    have HS7a := Lib.hid hs7
    have HX2 := Lib.hid hx2
    have HM2 := Lib.hid hm2
    have HU2 := Lib.hid hu2
    clear hs7 hu2 hx2 hm2 hV2 hB7 HX1 HM1 HU1 hz1
    refine (HSGN.out _ (HLA.out.up HU2.out)).mono ?_
    rintro e V3 ⟨hb3, hcase⟩
    obtain ⟨_, Bs, cg, rfl, hown⟩ := hcase.resolve_right (fun hc => hc.1 HIN.out)
    have hu3 := up_below hb3
    have hslg : SlH V3 (.slice Bs 512 cg) (sgnL h a m 256) := by
      have h2 := own_slh (w := V3) (base := V2.heap.size) (c := cg) (B := Bs) (hs := sgnL h a m 256) (by rw [sgnL_len]; exact hown) (by rw [sgnL_len]; exact sgnL_each h a m 256)
      rwa [sgnL_len] at h2
    obtain ⟨g, hBs, hcg1, hcg2⟩ : ∃ g, Bs = some ⟨g, 0, none⟩ ∧ 512 ≤ cg ∧ cg ≤ maxLen := by
      rcases hown.2 with ⟨_, h0⟩ | ⟨g, cap, cur, he, _, _, h1, h2, _⟩
      · omega
      · injection he with h3 h4 h5
        subst h5
        exact ⟨g, h3, h1, h2⟩
    subst hBs
    have hcg3 : cg ≤ 9223372036854775807 := by unfold maxLen at hcg2; omega
    have HSG := Lib.hid hslg
    have HS7b := Lib.hid (hu3.heap HS7a.out (fun h => h))
    have HX3 := Lib.hid (hu3.heap HX2.out (fun h => h))
    have HM3 := Lib.hid (hu3.heap HM2.out (fun h => h))
    have HU3 := Lib.hid (HU2.out.trans hu3)
    clear hb3 hcase hown hslg hu3 HS7a HX2 HM2 HU2 HSGN hcg2
    have hends := ends_any h a V3 HL.out HB.out HA.out (HLA.out.up HU3.out)
    rw [HCX.out] at hends
    have HENDS := Lib.hid hends
    clear hends
    go_wp2_with (refine wpList_load_row rfl 25 (.tmp 3) rfl w.heap.size (by rfl) 25 cx (0, 0) _ HX3.out Tryd.underlying25 rfl HSX.out ?_)
    refine HENDS.out.mono ?_
    rintro e W1 ⟨⟨B11, c11, rfl, hslp⟩, hb1⟩
    have hpl : (pubL h a 256).length = 512 := pairs_len _ _ _
    obtain ⟨g2, o2, cap2, he2, hp1, hp2, _, hp3⟩ := hslp.form (by omega)
    injection he2 with e1 e2 e3
    subst e1 e3
    rw [hpl] at hp1
    have hc11 : c11 ≤ 9223372036854775807 := by unfold maxLen at hp2; omega
    have hu1 := up_below hb1
    have HS71 := Lib.hid (hu1.heap HS7b.out (fun h => h))
    have HX4 := Lib.hid (hu1.heap HX3.out (fun h => h))
    have HM4 := Lib.hid (hu1.heap HM3.out (fun h => h))
    have HSG4 := Lib.hid (HSG.out.up hu1)
    have HU4 := Lib.hid (HU3.out.trans hu1)
    have HLA4 := Lib.hid (HLA.out.up (HU3.out.trans hu1))
    have HSLP1 := Lib.hid hslp
    have HPLEN := Lib.hid hpl
    have HPR := Lib.hid (fun r (hr : r < 512) => (hp3 r (by omega)).2.2)
    clear hb1 hslp hpl e2 hp2 hp3 hu1 HS7b HX3 HM3 HSG HU3 HLA HENDS
    have hud : Up W1 W1.drew := (Chg.refl _ _).drew
    have HS7 := Lib.hid (hud.heap HS71.out (fun h => h))
    have HSLP := Lib.hid (HSLP1.out.up hud)
    have HLA5 := Lib.hid (HLA4.out.up hud)
    clear hud
    go_wp2_with fail
    refine region_mono Up [fun v _ => v = .int .i64 0,
        fun v _ => v = .bool false,
        fun v _ => v = .bool false,
        fun v _ => v = .int .i64 0,
        fun v _ => v = .bool false,
        fun v _ => v = .bool false,
        fun v _ => v = .bool false,
        fun v _ => v = .slice (some ⟨g, 0, none⟩) 512 cg,
        fun v _ => v = .int .i64 (512),
        fun v _ => v = .bool false,
        fun v _ => v = .bool false,
        fun v _ => v = .bool false,
        fun v _ => v = hashV x,
        fun v _ => v = .slice (some ⟨g2, o2, none⟩) 512 c11,
        fun v _ => v = hashV x,
        fun v _ => v = .bool false,
        fun v _ => v = .bool false] (by kernel_rfl) (by kernel_rfl) (Chg.refl _) (fun _ _ _ => Chg.trans) (by simp) ?_ ?_ ?_
    · simp only [List.forall_mem_cons]
      exact ⟨fun _ _ _ _ _ h => h, fun _ _ _ _ _ h => h, fun _ _ _ _ _ h => h, fun _ _ _ _ _ h => h, fun _ _ _ _ _ h => h, fun _ _ _ _ _ h => h, fun _ _ _ _ _ h => h, fun _ _ _ _ _ h => h, fun _ _ _ _ _ h => h, fun _ _ _ _ _ h => h, fun _ _ _ _ _ h => h, fun _ _ _ _ _ h => h, fun _ _ _ _ _ h => h, fun _ _ _ _ _ h => h, fun _ _ _ _ _ h => h, fun _ _ _ _ _ h => h, fun _ _ _ _ _ h => h, by simp⟩
    · refine ⟨?_, ?_, ?_, ?_, ?_, ?_, ?_, ?_, ?_, ?_, ?_, ?_, ?_, ?_, ?_, ?_, ?_, trivial⟩
      · intro ρ w1 hw h0 hc hg hf hd
        have s8 : ρ (.tmp 8) = .int .i64 0 := h0 8 (by kernel_rfl)
        refine ⟨fun _ => ?_, fun h => by cases h⟩
        clear h0 hg hd
        exact gives_move rfl ⟨Chg.refl _ _, s8⟩
      · intro ρ w1 hw h0 hc hg hf hd
        have d0 := hd ⟨0, .data⟩ (by simp) rfl _ _ _ rfl rfl rfl
        refine ⟨fun _ => ?_, fun h => by cases h⟩
        clear h0 hg hd
        clear hf
        refine Gives.value (w' := w1) ?_ ⟨Chg.refl _ _, rfl⟩
        go_simp
      · intro ρ w1 hw h0 hc hg hf hd
        have d1 := hd ⟨1, .data⟩ (by simp) rfl _ _ _ rfl rfl rfl
        refine ⟨fun _ => ?_, fun h => by cases h⟩
        clear h0 hg hd
        exact gives_move rfl ⟨Chg.refl _ _, d1⟩
      · intro ρ w1 hw h0 hc hg hf hd
        have d2 := hd ⟨2, .guard⟩ (by simp) rfl _ _ _ rfl rfl rfl
        have s10 : ρ (.tmp 10) = .int .i64 0 := h0 10 (by kernel_rfl)
        refine ⟨fun _ => ?_, fun h => by rw [wantedBy_true rfl rfl rfl d2] at h; cases h⟩
        clear d2
        clear h0 hg hd
        exact gives_move rfl ⟨Chg.refl _ _, s10⟩
      · intro ρ w1 hw h0 hc hg hf hd
        have d3 := hd ⟨3, .data⟩ (by simp) rfl _ _ _ rfl rfl rfl
        have d2 := hd ⟨2, .guard⟩ (by simp) rfl _ _ _ rfl rfl rfl
        refine ⟨fun _ => ?_, fun h => by rw [wantedBy_true rfl rfl rfl d2] at h; cases h⟩
        clear d2
        clear h0 hg hd
        clear hf
        refine Gives.value (w' := w1) ?_ ⟨Chg.refl _ _, rfl⟩
        go_simp
      · intro ρ w1 hw h0 hc hg hf hd
        have d2 := hd ⟨2, .data⟩ (by simp) rfl _ _ _ rfl rfl rfl
        have d4 := hd ⟨4, .data⟩ (by simp) rfl _ _ _ rfl rfl rfl
        refine ⟨fun _ => ?_, fun h => by cases h⟩
        clear h0 hg hd
        clear hf
        refine Gives.value (w' := w1) ?_ ⟨Chg.refl _ _, rfl⟩
        go_simp
      · intro ρ w1 hw h0 hc hg hf hd
        have d5 := hd ⟨5, .data⟩ (by simp) rfl _ _ _ rfl rfl rfl
        refine ⟨fun _ => ?_, fun h => by cases h⟩
        clear h0 hg hd
        exact gives_move rfl ⟨Chg.refl _ _, d5⟩
      · intro ρ w1 hw h0 hc hg hf hd
        have d6 := hd ⟨6, .guard⟩ (by simp) rfl _ _ _ rfl rfl rfl
        have s9 : ρ (.tmp 9) = .slice (some ⟨g, 0, none⟩) 512 cg := h0 9 (by kernel_rfl)
        refine ⟨fun _ => ?_, fun h => by rw [wantedBy_true rfl rfl rfl d6] at h; cases h⟩
        clear d6
        clear h0 hg hd
        exact gives_move rfl ⟨Chg.refl _ _, s9⟩
      · intro ρ w1 hw h0 hc hg hf hd
        have d7 := hd ⟨7, .data⟩ (by simp) rfl _ _ _ rfl rfl rfl
        have d6 := hd ⟨6, .guard⟩ (by simp) rfl _ _ _ rfl rfl rfl
        refine ⟨fun _ => ?_, fun h => by rw [wantedBy_true rfl rfl rfl d6] at h; cases h⟩
        clear d6
        clear h0 hg hd
        clear hf
        refine Gives.value (w' := w1) ?_ ⟨Chg.refl _ _, rfl⟩
        go_simp
      · intro ρ w1 hw h0 hc hg hf hd
        have d8 := hd ⟨8, .data⟩ (by simp) rfl _ _ _ rfl rfl rfl
        have d6 := hd ⟨6, .guard⟩ (by simp) rfl _ _ _ rfl rfl rfl
        refine ⟨fun _ => ?_, fun h => by rw [wantedBy_true rfl rfl rfl d6] at h; cases h⟩
        clear d6
        clear h0 hg hd
        clear hf
        refine Gives.value (w' := w1) ?_ ⟨Chg.refl _ _, rfl⟩
        go_simp
      · intro ρ w1 hw h0 hc hg hf hd
        have d6 := hd ⟨6, .data⟩ (by simp) rfl _ _ _ rfl rfl rfl
        have d9 := hd ⟨9, .data⟩ (by simp) rfl _ _ _ rfl rfl rfl
        refine ⟨fun _ => ?_, fun h => by cases h⟩
        clear h0 hg hd
        clear hf
        refine Gives.value (w' := w1) ?_ ⟨Chg.refl _ _, rfl⟩
        go_simp
      · intro ρ w1 hw h0 hc hg hf hd
        have d10 := hd ⟨10, .data⟩ (by simp) rfl _ _ _ rfl rfl rfl
        refine ⟨fun _ => ?_, fun h => by cases h⟩
        clear h0 hg hd
        exact gives_move rfl ⟨Chg.refl _ _, d10⟩
      · intro ρ w1 hw h0 hc hg hf hd
        have d11 := hd ⟨11, .guard⟩ (by simp) rfl _ _ _ rfl rfl rfl
        have s7 : ρ (.tmp 7) = .pointer (some ⟨B7, 0, none⟩) := h0 7 (by kernel_rfl)
        refine ⟨fun _ => ?_, fun h => by rw [wantedBy_true rfl rfl rfl d11] at h; cases h⟩
        clear d11
        clear h0 hg hd
        clear hc hf
        rw [HHC.out]
        exact gives_load_row rfl s7 (hw.heap HS7.out (fun h => h)) Tryd.underlying25 rfl HSZ.out ⟨Chg.refl _ _, rfl⟩
      · intro ρ w1 hw h0 hc hg hf hd
        have d11 := hd ⟨11, .guard⟩ (by simp) rfl _ _ _ rfl rfl rfl
        have s11 : ρ (.tmp 11) = .slice (some ⟨g2, o2, none⟩) 512 c11 := h0 11 (by kernel_rfl)
        refine ⟨fun _ => ?_, fun h => by rw [wantedBy_true rfl rfl rfl d11] at h; cases h⟩
        clear d11
        clear h0 hg hd
        exact gives_move rfl ⟨Chg.refl _ _, s11⟩
      · intro ρ w1 hw h0 hc hg hf hd
        have d13 := hd ⟨13, .data⟩ (by simp) rfl _ _ _ rfl rfl rfl
        have d11 := hd ⟨11, .chain⟩ (by simp) rfl _ _ _ rfl rfl rfl
        refine ⟨fun _ => ?_, fun h => by rw [wantedBy_true rfl rfl rfl d11] at h; cases h⟩
        clear d11
        clear h0 hg hd
        have hcl := public_any _ _ w1 (HSLP.out.up hw) (by rw [HPLEN.out]; omega) (HLA5.out.up hw)
        unfold SumPost at hcl
        rw [HPX.out] at hcl
        refine gives_call rfl hf Tryd.func39 rfl (by kernel_rfl) (args := #[.slice (some ⟨g2, o2, none⟩) 512 c11]) (by simp [hc, d13]) (hcl.mono ?_)
        rintro e w2 ⟨rfl, hb⟩
        exact ⟨_, rfl, up_below hb, rfl⟩
      · intro ρ w1 hw h0 hc hg hf hd
        have d12 := hd ⟨12, .data⟩ (by simp) rfl _ _ _ rfl rfl rfl
        have d14 := hd ⟨14, .data⟩ (by simp) rfl _ _ _ rfl rfl rfl
        have d11 := hd ⟨11, .guard⟩ (by simp) rfl _ _ _ rfl rfl rfl
        refine ⟨fun _ => ?_, fun h => by rw [wantedBy_true rfl rfl rfl d11] at h; cases h⟩
        clear d11
        clear h0 hg hd
        exact gives_same_ne rfl d12 d14 HXL.out ⟨Chg.refl _ _, rfl⟩
      · intro ρ w1 hw h0 hc hg hf hd
        have d11 := hd ⟨11, .data⟩ (by simp) rfl _ _ _ rfl rfl rfl
        have d15 := hd ⟨15, .data⟩ (by simp) rfl _ _ _ rfl rfl rfl
        refine ⟨fun _ => ?_, fun h => by cases h⟩
        clear h0 hg hd
        clear hf
        refine Gives.value (w' := w1) ?_ ⟨Chg.refl _ _, rfl⟩
        go_simp
    · intro vs w6 hw hr
      have h16 := hr 16 _ rfl
      clear hr
      dsimp only [putsL, restL]
      simp only [Act.put, List.setIfInBounds_toArray, List.set_cons_zero, List.set_cons_succ]
      rw [h16]
      have hu6 : Up W1 w6 := (Chg.refl (fun _ => False) W1).drew.trans hw
      have HU6 := Lib.hid (HU4.out.trans hu6)
      have HX6 := Lib.hid (hu6.heap HX4.out (fun h => h))
      have HM6 := Lib.hid (hu6.heap HM4.out (fun h => h))
      have HS76 := Lib.hid (hu6.heap HS71.out (fun h => h))
      have HSG6 := Lib.hid (HSG4.out.up hu6)
      have HPR6 := Lib.hid (fun r hr => Rng.up (HPR.out r hr) hu6)
      have HLA6 := Lib.hid (HLA4.out.up hu6)
      clear hu6 hw h16 HS71 HX4 HM4 HSG4 HU4 HLA4 HSLP1 HPR HS7 HSLP HLA5
      go_wp2_with fail
      simp only [Nat.zero_add, Nat.reduceAdd]
      go_loopw [74] (fun i wr => ∃ (k : Nat), k ≤ 256 ∧ i = .int .i64 k ∧ Up w6 wr) (fun i _ => 256 - (intOf i).toNat)
      case atStart => exact ⟨0, by omega, rfl, Chg.refl _ _⟩
      case round =>
        rename World => wo
        obtain ⟨k, hk, rfl, hu⟩ := hrel
        by_cases hk2 : (k : Int) < 256
        · have hbd := bitI_bd m k
          obtain ⟨bn, hbn⟩ : ∃ bn : Nat, bitI m k = bn := ⟨(bitI m k).toNat, by omega⟩
          have hbn2 : bn ≤ 1 := by omega
          obtain ⟨a0, a1⟩ := pairs_at (fun k => secI h a (67 + 2 * (k : Int) + bitI m k)) (fun k => endL h a k (1 - bitI m k)) 256 k (by omega)
          obtain ⟨p0, p1⟩ := pairs_at (fun k => endL h a k 0) (fun k => endL h a k 1) 256 k (by omega)
          change (sgnL h a m 256).getD (2 * k) [] = _ at a0
          change (sgnL h a m 256).getD (2 * k + 1) [] = _ at a1
          change (pubL h a 256).getD (2 * k) [] = _ at p0
          change (pubL h a 256).getD (2 * k + 1) [] = _ at p1
          have hp : (pubL h a 256).getD (2 * k + 1 - bn) [] = endL h a k (1 - (bn : Int)) := by
            have : bn = 0 ∨ bn = 1 := by omega
            rcases this with rfl | rfl
            · exact p1
            · exact p0
          have hl0 := secI_len h a (67 + 2 * (k : Int) + (bn : Int))
          have hl1 := endL_ok h a k (1 - (bn : Int))
          rw [hbn] at a0 a1
          have r0 := (HSG6.out.form (by rw [sgnL_len]; omega))
          obtain ⟨g', o', cap', he', _, _, _, hr'⟩ := r0
          injection he' with e1 e2 e3
          injection e1 with e1
          injection e1 with e1 e4
          subst e1 e4
          have rr0 := (hr' (2 * k) (by rw [sgnL_len]; omega)).2.2
          have rr1 := (hr' (2 * k + 1) (by rw [sgnL_len]; omega)).2.2
          rw [a0, Nat.zero_add] at rr0
          rw [a1, Nat.zero_add] at rr1
          have rp := HPR6.out (2 * k + 1 - bn) (by omega)
          rw [hp] at rp
          have hbit := HBIT.out k (by omega) wo
          rw [hbn] at hbit
          obtain ⟨s0, hs0⟩ : ∃ x, secI h a (67 + 2 * (k : Int) + (bn : Int)) = x := ⟨_, rfl⟩
          obtain ⟨e1, he1⟩ : ∃ x, endL h a k (1 - (bn : Int)) = x := ⟨_, rfl⟩
          rw [hs0] at hl0 rr0
          rw [he1] at hl1 rr1 rp
          have HS0E := Lib.hid hs0
          have HLs0 := Lib.hid hl0
          have HLe1 := Lib.hid hl1.1
          have HRR0 := Lib.hid (Rng.up rr0 hu)
          have HRR1 := Lib.hid (Rng.up rr1 hu)
          have HRRP := Lib.hid (Rng.up rp hu)
          have HBITo := Lib.hid hbit
          have HMo := Lib.hid (hu.heap HM6.out (fun h => h))
          have HXo := Lib.hid (hu.heap HX6.out (fun h => h))
          have HU := Lib.hid hu
          clear hbd hbn a0 a1 p0 p1 hp hl0 hl1 e2 e3 hr' rr0 rr1 rp hbit hs0 he1 hu
          go_wp2_with (refine wpList_load_row rfl 25 (.tmp 5) rfl (w.heap.size + 1) (by rfl) 25 cm (0, 0) _ HMo.out Tryd.underlying25 rfl HSM.out ?_)
          refine HBITo.out.mono ?_
          rintro e W2 ⟨rfl, hb2⟩
          have hu2 := up_below hb2
          have hud : Up wo W2.drew := hu2.trans (Chg.refl _ _).drew
          have HRS0 := Lib.hid (Rng.up HRR0.out hud)
          have HRE1 := Lib.hid (Rng.up HRR1.out hud)
          have HRP1 := Lib.hid (Rng.up HRRP.out hud)
          have HXR := Lib.hid (hud.heap HXo.out (fun h => h))
          have HLAo := Lib.hid (HLA6.out.up (HU.out.trans hud))
          have HU2 := Lib.hid (HU.out.trans hud)
          clear hb2 hu2 hud HBITo HRR0 HRR1 HRRP HMo HXo HU
          go_wp2_with fail
          refine region_mono Up [fun v _ => v = .slice (some ⟨g, 0, none⟩) 512 cg,
              fun v _ => v = .int .i64 (k : Int),
              fun v _ => v = .int .i64 (2 * (k : Int)),
              fun v _ => v = .pointer (some ⟨g, 32 * (2 * k), none⟩),
              fun v _ => v = hashV s0,
              fun v _ => v = hashV h,
              fun v _ => v = .int .i64 a,
              fun v _ => v = .int .i64 (k : Int),
              fun v _ => v = .int .i64 (2 * (k : Int)),
              fun v _ => v = .int .i64 (67 + 2 * (k : Int)),
              fun v _ => v = .int .i64 (bn : Int),
              fun v _ => v = .int .i64 (67 + 2 * (k : Int) + (bn : Int)),
              fun v _ => v = hashV s0,
              fun v _ => v = .bool false,
              fun v _ => v = .bool false,
              fun v _ => v = .slice (some ⟨g, 0, none⟩) 512 cg,
              fun v _ => v = .int .i64 (k : Int),
              fun v _ => v = .int .i64 (2 * (k : Int)),
              fun v _ => v = .int .i64 (2 * (k : Int) + 1),
              fun v _ => v = .pointer (some ⟨g, 32 * (2 * k + 1), none⟩),
              fun v _ => v = hashV e1,
              fun v _ => v = .slice (some ⟨g2, o2, none⟩) 512 c11,
              fun v _ => v = .int .i64 (k : Int),
              fun v _ => v = .int .i64 (2 * (k : Int)),
              fun v _ => v = .int .i64 (2 * (k : Int) + 1),
              fun v _ => v = .int .i64 (bn : Int),
              fun v _ => v = .int .i64 (2 * (k : Int) + 1 - (bn : Int)),
              fun v _ => v = .pointer (some ⟨g2, o2 + 32 * (2 * k + 1 - bn), none⟩),
              fun v _ => v = hashV e1,
              fun v _ => v = .bool false,
              fun v _ => v = .bool false] (by kernel_rfl) (by kernel_rfl) (Chg.refl _) (fun _ _ _ => Chg.trans) (by simp) ?_ ?_ ?_
          · simp only [List.forall_mem_cons]
            exact ⟨fun _ _ _ _ _ h => h, fun _ _ _ _ _ h => h, fun _ _ _ _ _ h => h, fun _ _ _ _ _ h => h, fun _ _ _ _ _ h => h, fun _ _ _ _ _ h => h, fun _ _ _ _ _ h => h, fun _ _ _ _ _ h => h, fun _ _ _ _ _ h => h, fun _ _ _ _ _ h => h, fun _ _ _ _ _ h => h, fun _ _ _ _ _ h => h, fun _ _ _ _ _ h => h, fun _ _ _ _ _ h => h, fun _ _ _ _ _ h => h, fun _ _ _ _ _ h => h, fun _ _ _ _ _ h => h, fun _ _ _ _ _ h => h, fun _ _ _ _ _ h => h, fun _ _ _ _ _ h => h, fun _ _ _ _ _ h => h, fun _ _ _ _ _ h => h, fun _ _ _ _ _ h => h, fun _ _ _ _ _ h => h, fun _ _ _ _ _ h => h, fun _ _ _ _ _ h => h, fun _ _ _ _ _ h => h, fun _ _ _ _ _ h => h, fun _ _ _ _ _ h => h, fun _ _ _ _ _ h => h, fun _ _ _ _ _ h => h, by simp⟩
          · refine ⟨?_, ?_, ?_, ?_, ?_, ?_, ?_, ?_, ?_, ?_, ?_, ?_, ?_, ?_, ?_, ?_, ?_, ?_, ?_, ?_, ?_, ?_, ?_, ?_, ?_, ?_, ?_, ?_, ?_, ?_, ?_, trivial⟩
            · intro ρ w1 hw h0 hc hg hf hd
              have s9 : ρ (.tmp 9) = .slice (some ⟨g, 0, none⟩) 512 cg := h0 9 (by kernel_rfl)
              refine ⟨fun _ => ?_, fun h => by cases h⟩
              clear h0 hg hd
              exact gives_move rfl ⟨Chg.refl _ _, s9⟩
            · intro ρ w1 hw h0 hc hg hf hd
              have s12 : ρ (.tmp 12) = .int .i64 (k : Int) := h0 12 (by kernel_rfl)
              refine ⟨fun _ => ?_, fun h => by cases h⟩
              clear h0 hg hd
              exact gives_move rfl ⟨Chg.refl _ _, s12⟩
            · intro ρ w1 hw h0 hc hg hf hd
              have d1 := hd ⟨1, .data⟩ (by simp) rfl _ _ _ rfl rfl rfl
              refine ⟨fun _ => ?_, fun h => by cases h⟩
              clear h0 hg hd
              clear hf
              refine Gives.value (w' := w1) ?_ ⟨Chg.refl _ _, rfl⟩
              go_simp
              exact wrap_small _ (by omega) (by omega)
            · intro ρ w1 hw h0 hc hg hf hd
              have d0 := hd ⟨0, .data⟩ (by simp) rfl _ _ _ rfl rfl rfl
              have d2 := hd ⟨2, .data⟩ (by simp) rfl _ _ _ rfl rfl rfl
              refine ⟨fun _ => ?_, fun h => by cases h⟩
              clear h0 hg hd
              clear hf
              refine Gives.value (w' := w1) ?_ ⟨Chg.refl _ _, rfl⟩
              go_simp
              rw [if_pos (by omega), show (2 * (k : Int)).toNat * 32 = 32 * (2 * k) by omega]
            · intro ρ w1 hw h0 hc hg hf hd
              have d3 := hd ⟨3, .data⟩ (by simp) rfl _ _ _ rfl rfl rfl
              refine ⟨fun _ => ?_, fun h => by cases h⟩
              clear h0 hg hd
              exact gives_hash rfl d3 HLs0.out (Rng.up HRS0.out hw) ⟨Chg.refl _ _, rfl⟩
            · intro ρ w1 hw h0 hc hg hf hd
              have s3 : ρ (.tmp 3) = .pointer (some ⟨w.heap.size, 0, none⟩) := h0 3 (by kernel_rfl)
              refine ⟨fun _ => ?_, fun h => by cases h⟩
              clear h0 hg hd
              clear hc hf
              rw [HCX.out]
              exact gives_load_row rfl s3 (hw.heap HXR.out (fun h => h)) Tryd.underlying25 rfl HSX.out ⟨Chg.refl _ _, rfl⟩
            · intro ρ w1 hw h0 hc hg hf hd
              have s1 : ρ (.tmp 1) = .int .i64 a := h0 1 (by kernel_rfl)
              refine ⟨fun _ => ?_, fun h => by cases h⟩
              clear h0 hg hd
              exact gives_move rfl ⟨Chg.refl _ _, s1⟩
            · intro ρ w1 hw h0 hc hg hf hd
              have s12 : ρ (.tmp 12) = .int .i64 (k : Int) := h0 12 (by kernel_rfl)
              refine ⟨fun _ => ?_, fun h => by cases h⟩
              clear h0 hg hd
              exact gives_move rfl ⟨Chg.refl _ _, s12⟩
            · intro ρ w1 hw h0 hc hg hf hd
              have d7 := hd ⟨7, .data⟩ (by simp) rfl _ _ _ rfl rfl rfl
              refine ⟨fun _ => ?_, fun h => by cases h⟩
              clear h0 hg hd
              clear hf
              refine Gives.value (w' := w1) ?_ ⟨Chg.refl _ _, rfl⟩
              go_simp
              exact wrap_small _ (by omega) (by omega)
            · intro ρ w1 hw h0 hc hg hf hd
              have d8 := hd ⟨8, .data⟩ (by simp) rfl _ _ _ rfl rfl rfl
              refine ⟨fun _ => ?_, fun h => by cases h⟩
              clear h0 hg hd
              clear hf
              refine Gives.value (w' := w1) ?_ ⟨Chg.refl _ _, rfl⟩
              go_simp
              exact wrap_small _ (by omega) (by omega)
            · intro ρ w1 hw h0 hc hg hf hd
              have s13 : ρ (.tmp 13) = .int .i64 (bn : Int) := h0 13 (by kernel_rfl)
              refine ⟨fun _ => ?_, fun h => by cases h⟩
              clear h0 hg hd
              exact gives_move rfl ⟨Chg.refl _ _, s13⟩
            · intro ρ w1 hw h0 hc hg hf hd
              have d9 := hd ⟨9, .data⟩ (by simp) rfl _ _ _ rfl rfl rfl
              have d10 := hd ⟨10, .data⟩ (by simp) rfl _ _ _ rfl rfl rfl
              refine ⟨fun _ => ?_, fun h => by cases h⟩
              clear h0 hg hd
              clear hf
              refine Gives.value (w' := w1) ?_ ⟨Chg.refl _ _, rfl⟩
              go_simp
              exact wrap_small _ (by omega) (by omega)
            · intro ρ w1 hw h0 hc hg hf hd
              have d5 := hd ⟨5, .data⟩ (by simp) rfl _ _ _ rfl rfl rfl
              have d6 := hd ⟨6, .data⟩ (by simp) rfl _ _ _ rfl rfl rfl
              have d11 := hd ⟨11, .data⟩ (by simp) rfl _ _ _ rfl rfl rfl
              refine ⟨fun _ => ?_, fun h => by cases h⟩
              clear h0 hg hd
              have hcl := secret2_any h a (67 + 2 * (k : Int) + (bn : Int)) w1 HL.out HB.out HA.out ⟨by omega, by omega⟩ (HLAo.out.up hw)
              unfold HashPost at hcl
              rw [HS0E.out] at hcl
              refine gives_call rfl hf Tryd.func43 rfl (by kernel_rfl) (args := #[hashV h, .int .i64 a, .int .i64 (67 + 2 * (k : Int) + (bn : Int))]) (by simp [hc, d5, d6, d11]) (hcl.mono ?_)
              rintro e w2 ⟨rfl, hb⟩
              exact ⟨_, rfl, up_below hb, rfl⟩
            · intro ρ w1 hw h0 hc hg hf hd
              have d4 := hd ⟨4, .data⟩ (by simp) rfl _ _ _ rfl rfl rfl
              have d12 := hd ⟨12, .data⟩ (by simp) rfl _ _ _ rfl rfl rfl
              refine ⟨fun _ => ?_, fun h => by cases h⟩
              clear h0 hg hd
              exact gives_same_ne rfl d4 d12 HLs0.out ⟨Chg.refl _ _, rfl⟩
            · intro ρ w1 hw h0 hc hg hf hd
              have d13 := hd ⟨13, .data⟩ (by simp) rfl _ _ _ rfl rfl rfl
              refine ⟨fun _ => ?_, fun h => by cases h⟩
              clear h0 hg hd
              exact gives_move rfl ⟨Chg.refl _ _, d13⟩
            · intro ρ w1 hw h0 hc hg hf hd
              have d14 := hd ⟨14, .guard⟩ (by simp) rfl _ _ _ rfl rfl rfl
              have s9 : ρ (.tmp 9) = .slice (some ⟨g, 0, none⟩) 512 cg := h0 9 (by kernel_rfl)
              refine ⟨fun _ => ?_, fun h => by rw [wantedBy_true rfl rfl rfl d14] at h; cases h⟩
              clear d14
              clear h0 hg hd
              exact gives_move rfl ⟨Chg.refl _ _, s9⟩
            · intro ρ w1 hw h0 hc hg hf hd
              have d14 := hd ⟨14, .guard⟩ (by simp) rfl _ _ _ rfl rfl rfl
              have s12 : ρ (.tmp 12) = .int .i64 (k : Int) := h0 12 (by kernel_rfl)
              refine ⟨fun _ => ?_, fun h => by rw [wantedBy_true rfl rfl rfl d14] at h; cases h⟩
              clear d14
              clear h0 hg hd
              exact gives_move rfl ⟨Chg.refl _ _, s12⟩
            · intro ρ w1 hw h0 hc hg hf hd
              have d16 := hd ⟨16, .data⟩ (by simp) rfl _ _ _ rfl rfl rfl
              have d14 := hd ⟨14, .guard⟩ (by simp) rfl _ _ _ rfl rfl rfl
              refine ⟨fun _ => ?_, fun h => by rw [wantedBy_true rfl rfl rfl d14] at h; cases h⟩
              clear d14
              clear h0 hg hd
              clear hf
              refine Gives.value (w' := w1) ?_ ⟨Chg.refl _ _, rfl⟩
              go_simp
              exact wrap_small _ (by omega) (by omega)
            · intro ρ w1 hw h0 hc hg hf hd
              have d17 := hd ⟨17, .data⟩ (by simp) rfl _ _ _ rfl rfl rfl
              have d14 := hd ⟨14, .guard⟩ (by simp) rfl _ _ _ rfl rfl rfl
              refine ⟨fun _ => ?_, fun h => by rw [wantedBy_true rfl rfl rfl d14] at h; cases h⟩
              clear d14
              clear h0 hg hd
              clear hf
              refine Gives.value (w' := w1) ?_ ⟨Chg.refl _ _, rfl⟩
              go_simp
              exact wrap_small _ (by omega) (by omega)
            · intro ρ w1 hw h0 hc hg hf hd
              have d15 := hd ⟨15, .data⟩ (by simp) rfl _ _ _ rfl rfl rfl
              have d18 := hd ⟨18, .data⟩ (by simp) rfl _ _ _ rfl rfl rfl
              have d14 := hd ⟨14, .guard⟩ (by simp) rfl _ _ _ rfl rfl rfl
              refine ⟨fun _ => ?_, fun h => by rw [wantedBy_true rfl rfl rfl d14] at h; cases h⟩
              clear d14
              clear h0 hg hd
              clear hf
              refine Gives.value (w' := w1) ?_ ⟨Chg.refl _ _, rfl⟩
              go_simp
              rw [if_pos (by omega), show (2 * (k : Int) + 1).toNat * 32 = 32 * (2 * k + 1) by omega]
            · intro ρ w1 hw h0 hc hg hf hd
              have d19 := hd ⟨19, .data⟩ (by simp) rfl _ _ _ rfl rfl rfl
              have d14 := hd ⟨14, .guard⟩ (by simp) rfl _ _ _ rfl rfl rfl
              refine ⟨fun _ => ?_, fun h => by rw [wantedBy_true rfl rfl rfl d14] at h; cases h⟩
              clear d14
              clear h0 hg hd
              exact gives_hash rfl d19 HLe1.out (Rng.up HRE1.out hw) ⟨Chg.refl _ _, rfl⟩
            · intro ρ w1 hw h0 hc hg hf hd
              have d14 := hd ⟨14, .guard⟩ (by simp) rfl _ _ _ rfl rfl rfl
              have s11 : ρ (.tmp 11) = .slice (some ⟨g2, o2, none⟩) 512 c11 := h0 11 (by kernel_rfl)
              refine ⟨fun _ => ?_, fun h => by rw [wantedBy_true rfl rfl rfl d14] at h; cases h⟩
              clear d14
              clear h0 hg hd
              exact gives_move rfl ⟨Chg.refl _ _, s11⟩
            · intro ρ w1 hw h0 hc hg hf hd
              have d14 := hd ⟨14, .guard⟩ (by simp) rfl _ _ _ rfl rfl rfl
              have s12 : ρ (.tmp 12) = .int .i64 (k : Int) := h0 12 (by kernel_rfl)
              refine ⟨fun _ => ?_, fun h => by rw [wantedBy_true rfl rfl rfl d14] at h; cases h⟩
              clear d14
              clear h0 hg hd
              exact gives_move rfl ⟨Chg.refl _ _, s12⟩
            · intro ρ w1 hw h0 hc hg hf hd
              have d22 := hd ⟨22, .data⟩ (by simp) rfl _ _ _ rfl rfl rfl
              have d14 := hd ⟨14, .guard⟩ (by simp) rfl _ _ _ rfl rfl rfl
              refine ⟨fun _ => ?_, fun h => by rw [wantedBy_true rfl rfl rfl d14] at h; cases h⟩
              clear d14
              clear h0 hg hd
              clear hf
              refine Gives.value (w' := w1) ?_ ⟨Chg.refl _ _, rfl⟩
              go_simp
              exact wrap_small _ (by omega) (by omega)
            · intro ρ w1 hw h0 hc hg hf hd
              have d23 := hd ⟨23, .data⟩ (by simp) rfl _ _ _ rfl rfl rfl
              have d14 := hd ⟨14, .guard⟩ (by simp) rfl _ _ _ rfl rfl rfl
              refine ⟨fun _ => ?_, fun h => by rw [wantedBy_true rfl rfl rfl d14] at h; cases h⟩
              clear d14
              clear h0 hg hd
              clear hf
              refine Gives.value (w' := w1) ?_ ⟨Chg.refl _ _, rfl⟩
              go_simp
              exact wrap_small _ (by omega) (by omega)
            · intro ρ w1 hw h0 hc hg hf hd
              have d14 := hd ⟨14, .guard⟩ (by simp) rfl _ _ _ rfl rfl rfl
              have s13 : ρ (.tmp 13) = .int .i64 (bn : Int) := h0 13 (by kernel_rfl)
              refine ⟨fun _ => ?_, fun h => by rw [wantedBy_true rfl rfl rfl d14] at h; cases h⟩
              clear d14
              clear h0 hg hd
              exact gives_move rfl ⟨Chg.refl _ _, s13⟩
            · intro ρ w1 hw h0 hc hg hf hd
              have d24 := hd ⟨24, .data⟩ (by simp) rfl _ _ _ rfl rfl rfl
              have d25 := hd ⟨25, .data⟩ (by simp) rfl _ _ _ rfl rfl rfl
              have d14 := hd ⟨14, .guard⟩ (by simp) rfl _ _ _ rfl rfl rfl
              refine ⟨fun _ => ?_, fun h => by rw [wantedBy_true rfl rfl rfl d14] at h; cases h⟩
              clear d14
              clear h0 hg hd
              clear hf
              refine Gives.value (w' := w1) ?_ ⟨Chg.refl _ _, rfl⟩
              go_simp
              exact wrap_small _ (by omega) (by omega)
            · intro ρ w1 hw h0 hc hg hf hd
              have d21 := hd ⟨21, .data⟩ (by simp) rfl _ _ _ rfl rfl rfl
              have d26 := hd ⟨26, .data⟩ (by simp) rfl _ _ _ rfl rfl rfl
              have d14 := hd ⟨14, .guard⟩ (by simp) rfl _ _ _ rfl rfl rfl
              refine ⟨fun _ => ?_, fun h => by rw [wantedBy_true rfl rfl rfl d14] at h; cases h⟩
              clear d14
              clear h0 hg hd
              clear hf
              refine Gives.value (w' := w1) ?_ ⟨Chg.refl _ _, rfl⟩
              go_simp
              rw [if_pos (by omega), show o2 + ((2 * (k : Int) + 1).toNat - bn) * 32 = o2 + 32 * (2 * k + 1 - bn) by omega]
            · intro ρ w1 hw h0 hc hg hf hd
              have d27 := hd ⟨27, .data⟩ (by simp) rfl _ _ _ rfl rfl rfl
              have d14 := hd ⟨14, .guard⟩ (by simp) rfl _ _ _ rfl rfl rfl
              refine ⟨fun _ => ?_, fun h => by rw [wantedBy_true rfl rfl rfl d14] at h; cases h⟩
              clear d14
              clear h0 hg hd
              exact gives_hash rfl d27 HLe1.out (Rng.up HRP1.out hw) ⟨Chg.refl _ _, rfl⟩
            · intro ρ w1 hw h0 hc hg hf hd
              have d20 := hd ⟨20, .data⟩ (by simp) rfl _ _ _ rfl rfl rfl
              have d28 := hd ⟨28, .data⟩ (by simp) rfl _ _ _ rfl rfl rfl
              have d14 := hd ⟨14, .guard⟩ (by simp) rfl _ _ _ rfl rfl rfl
              refine ⟨fun _ => ?_, fun h => by rw [wantedBy_true rfl rfl rfl d14] at h; cases h⟩
              clear d14
              clear h0 hg hd
              exact gives_same_ne rfl d20 d28 HLe1.out ⟨Chg.refl _ _, rfl⟩
            · intro ρ w1 hw h0 hc hg hf hd
              have d14 := hd ⟨14, .data⟩ (by simp) rfl _ _ _ rfl rfl rfl
              have d29 := hd ⟨29, .data⟩ (by simp) rfl _ _ _ rfl rfl rfl
              refine ⟨fun _ => ?_, fun h => by cases h⟩
              clear h0 hg hd
              clear hf
              refine Gives.value (w' := w1) ?_ ⟨Chg.refl _ _, rfl⟩
              go_simp
          · intro vs w7 hw hr
            have h30 := hr 30 _ rfl
            clear hr
            dsimp only [putsL, restL]
            simp only [Act.put, List.setIfInBounds_toArray, List.set_cons_zero, List.set_cons_succ]
            rw [h30]
            have HU7 := Lib.hid (HU2.out.trans hw)
            clear hw h30
            go_wp2_with fail
            go_roundw
            case rel => exact ⟨k + 1, by omega, by go_num, HU7.out⟩
            case measure => simp [intOf]; omega
        · obtain rfl : k = 256 := by omega
          have hrec := HREC.out _ _ wo (HSG6.out.up hu) (HLA6.out.up hu)
          have HRECo := Lib.hid hrec
          have HMo := Lib.hid (hu.heap HM6.out (fun h => h))
          have HS7o := Lib.hid (hu.heap HS76.out (fun h => h))
          have HUo := Lib.hid (HU6.out.trans hu)
          clear hrec hu HS76 HX6 HM6 HSG6 HPR6 HLA6 HREC
          go_wp2_with (refine wpList_load_row rfl 25 (.tmp 5) rfl (w.heap.size + 1) (by rfl) 25 cm (0, 0) _ HMo.out Tryd.underlying25 rfl HSM.out ?_)
          refine HRECo.out.mono ?_
          rintro e V8 ⟨hb8, hcase⟩
          obtain ⟨_, rfl⟩ := hcase.resolve_right (fun hc => hc.1 (by rw [sgnL_len]))
          rw [HXX.out, HHC.out]
          have HS78 := Lib.hid ((up_below hb8).heap HS7o.out (fun h => h))
          have HU8 := Lib.hid (HUo.out.trans (up_below hb8))
          have hz78 : B7 < V8.heap.size := (Array.getElem?_eq_some_iff.1 HS78.out).1
          have q1 : ∀ W : World, (binOp .eql 25 (.agg hc) (.agg hc)).run Tryd.prog W = .ok (.bool true) W := fun W => by
            have h := eql25 x x HXL.out HXL.out W
            rw [show (x == x) = true by simp] at h
            rw [← HHC.out]; exact h
          have q2 : ∀ (op : BinOp) (a b : Operand) (W : World), (eqGuard op 25 a b (.agg hc) (.agg hc)).run Tryd.prog W = .ok () W := fun op a b W => by
            rw [← HHC.out]; exact guard25 op a b x x W
          clear hb8 hcase HRECo HMo HS7o HUo
          go_wp2_with (first
            | refine wpList_store_row rfl 25 (.tmp 14) (.tmp 116) rfl V8.heap.size hc (by rfl) (by rfl) 25 _ (heap_alloc_last V8 _) HSZ.out (by rw [HO.out]; rfl) HON.out ?_
            | refine wpList_load_row_g (by rfl) 25 (.tmp 14) rfl V8.heap.size (by rfl) 25 hc (0, 0) _ (setRow_same _ _ hc _ 25 (0, 0) (heap_alloc_last V8 _)) Tryd.underlying25 rfl HSZ.out ?_
            | refine wpList_load_row_g (by rfl) 25 (.tmp 7) rfl B7 (by rfl) 25 hc (0, 0) _ ((setRow_other _ _ _ _ (by omega)).trans ((Below.heap_alloc _ _ _ (by omega)).trans HS78.out)) Tryd.underlying25 rfl HSZ.out ?_
            | (go_at_call 52; refine (awakeB_any _).mono ?_; rintro e w' ⟨rfl, hb⟩))
          go_ret
          exact ⟨rfl, (((HU8.out.alloc _).setRow _ (.inr HU8.out.size) hc).trans (up_below hb)).below_none (fun _ _ h => h)⟩
end Go.Proofs.YtaahffminoekfaaDoor
