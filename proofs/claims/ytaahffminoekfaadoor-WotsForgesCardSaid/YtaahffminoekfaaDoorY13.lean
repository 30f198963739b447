/-
  The law 'WotsForges', walked.
-/
import Derived.Test.YtaahffminoekfaaDoorY10
import Derived.Test.YtaahffminoekfaaDoorY12
namespace Go.Proofs.YtaahffminoekfaaDoor
open Go.RowKit
set_option maxRecDepth 100000 in
set_option maxHeartbeats 4000000 in
theorem wotsForges_any (h m o : List Int) (w : World) (hl : h.length = 32) (hb : Bytes h) (hlm : m.length = 32) (hbm : Bytes m) (hlo : o.length = 32) (hbo : Bytes o) (hla : Laid w) :
    Calls Tryd.prog 20 #[hashV h, hashV m, hashV o] w (TruePost w) := by
  have hl2 := hla.lt
  have hin : inRange 0 := by unfold inRange; omega
  have ha : I64 0 := ⟨by omega, by omega⟩
  obtain ⟨cx, hcx, hux, _, _, hsz, hs32⟩ := hash_parts h hl
  obtain ⟨cm, hcm, hum, _, _, hszm, _⟩ := hash_parts m hlm
  obtain ⟨co, hco, huo, _, _, hszo, _⟩ := hash_parts o hlo
  obtain ⟨W0, hW0⟩ : ∃ W0, W0 = ((w.alloc (.cells cx 25)).alloc (.cells cm 25)).alloc (.cells co 25) := ⟨_, rfl⟩
  have HO0 : Hid (W0.heap[w.heap.size + 1 + 1]? = some (.cells co 25 (0, 0))) := Lib.hid (by
    rw [hW0]; have := heap_alloc_last ((w.alloc (.cells cx 25)).alloc (.cells cm 25)) (.cells co 25); rwa [World.size_alloc, World.size_alloc] at this)
  have HM0 : Hid (W0.heap[w.heap.size + 1]? = some (.cells cm 25 (0, 0))) := Lib.hid (by
    rw [hW0]; exact (Below.heap_alloc _ _ _ (by simp)).trans (by have := heap_alloc_last (w.alloc (.cells cx 25)) (.cells cm 25); rwa [World.size_alloc] at this))
  have HX0 : Hid (W0.heap[w.heap.size]? = some (.cells cx 25 (0, 0))) := Lib.hid (by rw [hW0]; exact (Below.heap_alloc _ _ _ (by simp; omega)).trans ((Below.heap_alloc _ _ _ (by simp)).trans (heap_alloc_last _ _)))
  have HU0 : Hid (Up w W0) := Lib.hid (by rw [hW0]; exact (((Chg.refl _ w).alloc _).alloc _).alloc _)
  have hwz0 : w.heap.size + 1 + 1 < W0.heap.size := (Array.getElem?_eq_some_iff.1 HO0.out).1
  have hkey := fun W hla => key_any h 0 W hl hb ha hla
  have hsgn := sign_any h 0 m W0 hl hb ha hlm hbm (hla.up HU0.out)
  have hrec := fun v sg W hs hla => recover_any o v sg W hlo hbo hs hla
  have hcol := fun v sg W hs h67 hk hla => collides_any m o v sg W hlm hbm hlo hbo hs h67 hk hla
  have hrs := rec_sig h 0 m hbm 67 (by omega)
  obtain ⟨x, hx⟩ : ∃ x, shaI (4 :: (pubI h 0 67).flatten) = x := ⟨_, rfl⟩
  obtain ⟨y, hy⟩ : ∃ y, shaI (4 :: (recI o (sigI h 0 m 67) 67).flatten) = y := ⟨_, rfl⟩
  have hxl : x.length = 32 := by rw [← hx]; exact hash_size _
  have hyl : y.length = 32 := by rw [← hy]; exact hash_size _
  obtain ⟨rx, hhx, _, honx, _, hszx, hsox⟩ := hash_parts x hxl
  obtain ⟨ry, hhy, _, hony, _, hszy, hsoy⟩ := hash_parts y hyl
  have qe := eql25 m o hlm hlo
  have qn := neq25 m o hlm hlo
  have qge := fun a b W => guard25 .eql a b m o W
  have qgn := fun a b W => guard25 .neq a b m o W
  have re := eql25 y x hyl hxl
  have rn := neq25 y x hyl hxl
  have rge := fun a b W => guard25 .eql a b y x W
  have rgn := fun a b W => guard25 .neq a b y x W
  rw [hcx] at hkey
  rw [hco] at hrec
  rw [hcm, hco] at hcol qe qn qge qgn
  rw [hhx, hhy] at re rn rge rgn
  rw [hcx, hcm] at hsgn
  rw [hcx, hcm, hco]
  have hsame : m = o → y = x := fun he => by rw [← hy, ← hx, ← he, hrs]
  have hkq : y = x → shaI (4 :: (recI m (sigI h 0 m 67) 67).flatten) = shaI (4 :: (recI o (sigI h 0 m 67) 67).flatten) := fun he => by rw [hrs, hx, hy, he]
  have HSAME := Lib.hid hsame
  have HKQ := Lib.hid hkq
  have HKEY := Lib.hid hkey
  have HSGN := Lib.hid hsgn
  have HREC := Lib.hid hrec
  have HCOL := Lib.hid hcol
  have HWL := Lib.hid hW0
  have HSX := Lib.hid hsz
  have HSM := Lib.hid hszm
  have HSO := Lib.hid hszo
  have HLA := Lib.hid hla
  have HPX := Lib.hid hx
  have HPY := Lib.hid hy
  have HHX := Lib.hid hhx
  have HHY := Lib.hid hhy
  have HONX := Lib.hid honx
  have HONY := Lib.hid hony
  have HSX9 := Lib.hid hszx
  have HSY := Lib.hid hszy
  have HOX := Lib.hid hsox
  have HOY := Lib.hid hsoy
  have HIN := Lib.hid hin
  clear hcx hux hl hb hla hsz hs32 hW0 ha hcm hum hszm hlm hbm hco huo hszo hlo hbo hkey hsgn hrec hcol hrs hx hy hxl hyl hhx honx hszx hsox hhy hony hszy hsoy hsame hkq hin
  go_enter Tryd.func20, Tryd.ntmps20
  go_wp2_with (first
    | refine wpList_load_row rfl 25 (.tmp 3) rfl w.heap.size (by rfl) 25 cx (0, 0) _ (by rw [← HWL.out]; exact HX0.out) Tryd.underlying25 rfl HSX.out ?_
    | refine wpList_load_row rfl 25 (.tmp 4) rfl (w.heap.size + 1) (by rfl) 25 cm (0, 0) _ (by rw [← HWL.out]; exact HM0.out) Tryd.underlying25 rfl HSM.out ?_)
  rw [← HWL.out]
  refine HSGN.out.mono ?_
  rintro e V1 ⟨hb1, hcase⟩
  obtain ⟨_, Bs, cg, rfl, hown⟩ := hcase.resolve_right (fun hc => hc.1 HIN.out)
  have hslg : SlH V1 (.slice Bs 67 cg) (sigI h 0 m 67) := by
    have h2 := own_slh (w := V1) (base := W0.heap.size) (c := cg) (B := Bs) (hs := sigI h 0 m 67) (by rw [sigI_len]; exact hown) (by rw [sigI_len]; exact sigI_each h 0 m 67)
    rwa [sigI_len] at h2
  have HSG := Lib.hid hslg
  have HX1 := Lib.hid ((up_below hb1).heap HX0.out (fun h => h))
  have HM1 := Lib.hid ((up_below hb1).heap HM0.out (fun h => h))
  have HO1 := Lib.hid ((up_below hb1).heap HO0.out (fun h => h))
  have HU1 := Lib.hid (HU0.out.trans (up_below hb1))
  have hz1 := hb1.size
  clear hb1 hcase hown hslg HX0 HM0 HO0 HU0 HWL HSGN
  go_wp2_with (refine wpList_load_row rfl 25 (.tmp 3) rfl w.heap.size (by rfl) 25 cx (0, 0) _ HX1.out Tryd.underlying25 rfl HSX.out ?_)
  refine (HKEY.out V1 (HLA.out.up HU1.out)).mono ?_
  rintro e V2 ⟨hb2, hcase⟩
  obtain ⟨_, rfl⟩ := hcase.resolve_right (fun hc => hc.1 HIN.out)
  rw [HPX.out, HHX.out]
  have HM2 := Lib.hid ((up_below hb2).heap HM1.out (fun h => h))
  have HO2 := Lib.hid ((up_below hb2).heap HO1.out (fun h => h))
  have HSG2 := Lib.hid (HSG.out.up (up_below hb2))
  have HU2 := Lib.hid (HU1.out.trans (up_below hb2))
  have hz2 := hb2.size
  clear hb2 hcase HX1 HM1 HO1 HSG HU1 HKEY
  go_wp2_with (first
    | refine wpList_store_row rfl 25 (.tmp 9) (.tmp 22) rfl V2.heap.size rx (by rfl) (by rfl) 25 _ (heap_alloc_last V2 _) HSX9.out (by rw [HOX.out]; rfl) HONX.out ?_
    | refine wpList_load_row rfl 25 (.tmp 5) rfl (w.heap.size + 1 + 1) (by rfl) 25 co (0, 0) _ ((setRow_other _ _ _ _ (by omega)).trans ((Below.heap_alloc _ _ _ (by omega)).trans HO2.out)) Tryd.underlying25 rfl HSO.out ?_)
  obtain ⟨B9, hB9⟩ : ∃ B9, B9 = V2.heap.size := ⟨_, rfl⟩
  obtain ⟨V3, hV3⟩ : ∃ V3, V3 = (V2.alloc (.cells (#[.int .u8 0, .int .u8 0, .int .u8 0, .int .u8 0, .int .u8 0, .int .u8 0, .int .u8 0, .int .u8 0, .int .u8 0, .int .u8 0, .int .u8 0, .int .u8 0, .int .u8 0, .int .u8 0, .int .u8 0, .int .u8 0, .int .u8 0, .int .u8 0, .int .u8 0, .int .u8 0, .int .u8 0, .int .u8 0, .int .u8 0, .int .u8 0, .int .u8 0, .int .u8 0, .int .u8 0, .int .u8 0, .int .u8 0, .int .u8 0, .int .u8 0, .int .u8 0]) 25)).setRow V2.heap.size rx := ⟨_, rfl⟩
  rw [← hV3, ← hB9]
  have hs9 : V3.heap[B9]? = some (.cells rx 25 (0, 0)) := by rw [hV3, hB9]; exact setRow_same _ _ rx _ 25 (0, 0) (heap_alloc_last V2 _)
  have hu3 : Up w V3 := by rw [hV3]; exact (HU2.out.alloc _).setRow _ (.inr HU2.out.size) rx
  have hu23 : Up V2 V3 := by rw [hV3]; exact ((Chg.refl _ V2).alloc _).setRow _ (.inr (Nat.le_refl _)) rx
  have hm3 := hu23.heap HM2.out (fun h => h)
  have ho3 := hu23.heap HO2.out (fun h => h)
  have hsg3 := HSG2.out.up hu23
  refine (HREC.out _ _ V3 hsg3 (HLA.out.up hu3)).mono ?_
  rintro e V4 ⟨hb4, hcase⟩
  obtain ⟨_, rfl⟩ := hcase.resolve_right (fun hc => hc.1 (by rw [sigI_len]))
  rw [HPY.out, HHY.out]
  have HM4 := Lib.hid ((up_below hb4).heap hm3 (fun h => h))
  have HO4 := Lib.hid ((up_below hb4).heap ho3 (fun h => h))
  have HX94 := Lib.hid ((up_below hb4).heap hs9 (fun h => h))
  have HSG4 := Lib.hid (hsg3.up (up_below hb4))
  have HU4 := Lib.hid (hu3.trans (up_below hb4))
  have hz4 := HU4.out.size
  have hz9 : B9 < V4.heap.size := (Array.getElem?_eq_some_iff.1 HX94.out).1
  have hzo : w.heap.size + 1 + 1 < V4.heap.size := (Array.getElem?_eq_some_iff.1 HO4.out).1
  have HU5 : Hid (Up w ((V4.alloc (.cells (#[.int .u8 0, .int .u8 0, .int .u8 0, .int .u8 0, .int .u8 0, .int .u8 0, .int .u8 0, .int .u8 0, .int .u8 0, .int .u8 0, .int .u8 0, .int .u8 0, .int .u8 0, .int .u8 0, .int .u8 0, .int .u8 0, .int .u8 0, .int .u8 0, .int .u8 0, .int .u8 0, .int .u8 0, .int .u8 0, .int .u8 0, .int .u8 0, .int .u8 0, .int .u8 0, .int .u8 0, .int .u8 0, .int .u8 0, .int .u8 0, .int .u8 0, .int .u8 0]) 25)).setRow V4.heap.size ry)) := Lib.hid ((HU4.out.alloc _).setRow _ (.inr HU4.out.size) ry)
  have HU45 : Hid (Up V4 ((V4.alloc (.cells (#[.int .u8 0, .int .u8 0, .int .u8 0, .int .u8 0, .int .u8 0, .int .u8 0, .int .u8 0, .int .u8 0, .int .u8 0, .int .u8 0, .int .u8 0, .int .u8 0, .int .u8 0, .int .u8 0, .int .u8 0, .int .u8 0, .int .u8 0, .int .u8 0, .int .u8 0, .int .u8 0, .int .u8 0, .int .u8 0, .int .u8 0, .int .u8 0, .int .u8 0, .int .u8 0, .int .u8 0, .int .u8 0, .int .u8 0, .int .u8 0, .int .u8 0, .int .u8 0]) 25)).setRow V4.heap.size ry)) := Lib.hid (((Chg.refl _ V4).alloc _).setRow _ (.inr (Nat.le_refl _)) ry)
  have HAW := Lib.hid (awake4_any _ (HLA.out.up HU5.out))
  clear hb4 hcase hm3 ho3 hs9 hsg3 hu3 hu23 hV3 hB9 HM2 HO2 HSG2 HU2 HREC hz1 hz2
  by_cases hmo : m = o
  · have hxy := HSAME.out hmo
    have b1 : (m == o) = true := by simpa using hmo
    have b2 : (y == x) = true := by simpa using hxy
    rw [b1] at qe qn
    rw [b2] at re rn
    rw [Bool.not_true] at qn rn
    clear b1 b2 hmo hxy HSAME HKQ HCOL
    go_wp2_with (first
      | refine wpList_store_row rfl 25 (.tmp 11) (.tmp 34) rfl V4.heap.size ry (by rfl) (by rfl) 25 _ (heap_alloc_last V4 _) HSY.out (by rw [HOY.out]; rfl) HONY.out ?_
      | refine wpList_load_row_g (by rfl) 25 (.tmp 4) rfl (w.heap.size + 1) (by rfl) 25 cm (0, 0) _ ((setRow_other _ _ _ _ (by omega)).trans ((Below.heap_alloc _ _ _ (by omega)).trans HM4.out)) Tryd.underlying25 rfl HSM.out ?_
      | refine wpList_load_row_g (by rfl) 25 (.tmp 5) rfl (w.heap.size + 1 + 1) (by rfl) 25 co (0, 0) _ ((setRow_other _ _ _ _ (by omega)).trans ((Below.heap_alloc _ _ _ (by omega)).trans HO4.out)) Tryd.underlying25 rfl HSO.out ?_
      | refine wpList_load_row_g (by rfl) 25 (.tmp 11) rfl V4.heap.size (by rfl) 25 ry (0, 0) _ (setRow_same _ _ ry _ 25 (0, 0) (heap_alloc_last V4 _)) Tryd.underlying25 rfl HSY.out ?_
      | refine wpList_load_row_g (by rfl) 25 (.tmp 9) rfl B9 (by rfl) 25 rx (0, 0) _ ((setRow_other _ _ _ _ (by omega)).trans ((Below.heap_alloc _ _ _ (by omega)).trans HX94.out)) Tryd.underlying25 rfl HSX9.out ?_
      | (go_at_call 46; refine HAW.out.mono ?_; rintro e w' ⟨rfl, hb⟩))
    go_ret
    exact ⟨rfl, (HU5.out.trans (up_below hb)).below_none (fun _ _ h => h)⟩
  · have b1 : (m == o) = false := by simpa using hmo
    rw [b1] at qe qn
    rw [Bool.not_false] at qn
    by_cases hxy : y = x
    · have b2 : (y == x) = true := by simpa using hxy
      rw [b2] at re rn
      rw [Bool.not_true] at rn
      have hcl := HCOL.out _ _ _ (HSG4.out.up HU45.out) (sigI_len _ _ _ _) (HKQ.out hxy) (HLA.out.up HU5.out)
      have HCL := Lib.hid hcl
      clear b1 b2 hmo hxy HSAME HKQ HCOL hcl
      go_wp2_with (first
        | refine wpList_store_row rfl 25 (.tmp 11) (.tmp 34) rfl V4.heap.size ry (by rfl) (by rfl) 25 _ (heap_alloc_last V4 _) HSY.out (by rw [HOY.out]; rfl) HONY.out ?_
        | refine wpList_load_row_g (by rfl) 25 (.tmp 4) rfl (w.heap.size + 1) (by rfl) 25 cm (0, 0) _ ((setRow_other _ _ _ _ (by omega)).trans ((Below.heap_alloc _ _ _ (by omega)).trans HM4.out)) Tryd.underlying25 rfl HSM.out ?_
        | refine wpList_load_row_g (by rfl) 25 (.tmp 5) rfl (w.heap.size + 1 + 1) (by rfl) 25 co (0, 0) _ ((setRow_other _ _ _ _ (by omega)).trans ((Below.heap_alloc _ _ _ (by omega)).trans HO4.out)) Tryd.underlying25 rfl HSO.out ?_
        | refine wpList_load_row_g (by rfl) 25 (.tmp 11) rfl V4.heap.size (by rfl) 25 ry (0, 0) _ (setRow_same _ _ ry _ 25 (0, 0) (heap_alloc_last V4 _)) Tryd.underlying25 rfl HSY.out ?_
        | refine wpList_load_row_g (by rfl) 25 (.tmp 9) rfl B9 (by rfl) 25 rx (0, 0) _ ((setRow_other _ _ _ _ (by omega)).trans ((Below.heap_alloc _ _ _ (by omega)).trans HX94.out)) Tryd.underlying25 rfl HSX9.out ?_
        | refine wpList_load_row rfl 25 (.tmp 4) rfl (w.heap.size + 1) (by rfl) 25 cm (0, 0) _ ((setRow_other _ _ _ _ (by omega)).trans ((Below.heap_alloc _ _ _ (by omega)).trans HM4.out)) Tryd.underlying25 rfl HSM.out ?_
        | refine wpList_load_row rfl 25 (.tmp 5) rfl (w.heap.size + 1 + 1) (by rfl) 25 co (0, 0) _ ((setRow_other _ _ _ _ (by omega)).trans ((Below.heap_alloc _ _ _ (by omega)).trans HO4.out)) Tryd.underlying25 rfl HSO.out ?_)
      refine HCL.out.mono ?_
      rintro e V6 ⟨rfl, hb6⟩
      have HU6 := Lib.hid (HU5.out.trans (up_below hb6))
      have HAW6 := Lib.hid (awake4_any _ (HLA.out.up HU6.out))
      clear hb6
      go_wp2_with ((go_at_call 46; refine HAW6.out.mono ?_; rintro e w' ⟨rfl, hb⟩))
      go_ret
      exact ⟨rfl, (HU6.out.trans (up_below hb)).below_none (fun _ _ h => h)⟩
    · have b2 : (y == x) = false := by simpa using hxy
      rw [b2] at re rn
      rw [Bool.not_false] at rn
      clear b1 b2 hmo hxy HSAME HKQ HCOL
      go_wp2_with (first
        | refine wpList_store_row rfl 25 (.tmp 11) (.tmp 34) rfl V4.heap.size ry (by rfl) (by rfl) 25 _ (heap_alloc_last V4 _) HSY.out (by rw [HOY.out]; rfl) HONY.out ?_
        | refine wpList_load_row_g (by rfl) 25 (.tmp 4) rfl (w.heap.size + 1) (by rfl) 25 cm (0, 0) _ ((setRow_other _ _ _ _ (by omega)).trans ((Below.heap_alloc _ _ _ (by omega)).trans HM4.out)) Tryd.underlying25 rfl HSM.out ?_
        | refine wpList_load_row_g (by rfl) 25 (.tmp 5) rfl (w.heap.size + 1 + 1) (by rfl) 25 co (0, 0) _ ((setRow_other _ _ _ _ (by omega)).trans ((Below.heap_alloc _ _ _ (by omega)).trans HO4.out)) Tryd.underlying25 rfl HSO.out ?_
        | refine wpList_load_row_g (by rfl) 25 (.tmp 11) rfl V4.heap.size (by rfl) 25 ry (0, 0) _ (setRow_same _ _ ry _ 25 (0, 0) (heap_alloc_last V4 _)) Tryd.underlying25 rfl HSY.out ?_
        | refine wpList_load_row_g (by rfl) 25 (.tmp 9) rfl B9 (by rfl) 25 rx (0, 0) _ ((setRow_other _ _ _ _ (by omega)).trans ((Below.heap_alloc _ _ _ (by omega)).trans HX94.out)) Tryd.underlying25 rfl HSX9.out ?_
        | (go_at_call 46; refine HAW.out.mono ?_; rintro e w' ⟨rfl, hb⟩))
      go_ret
      exact ⟨rfl, (HU5.out.trans (up_below hb)).below_none (fun _ _ h => h)⟩
end Go.Proofs.YtaahffminoekfaaDoor
